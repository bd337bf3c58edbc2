import Derived.Test.YtikphefllmemjaaGreatDoorAm7
import Derived.Lib.Builder
import Derived.Lib.UnsafeStr
/-
The engine, part 8: every quiet operation.
-/
namespace Go.Am
open Go
set_option linter.unusedVariables false
set_option linter.unusedSimpArgs false

section
variable {P : Program} {ρ : Ren} {g : VH} {w : World} {ev : Operand → Value} {ea : Operand → Value}

theorem q_convert (hS : Sim ρ g w) (src dst : TypeId) (x : Operand) (hx : Rv ρ (ev x) (ea x)) {v : Value}
    (hk : (cOp' P (.convert src dst x)).kind = 0)
    (hv : evalQ P ev g (cOp' P (.convert src dst x)) = some v) : ∃ v', (convert src dst (ea x)).run P w = .ok v' w ∧ Rv ρ v v' := by
  simp only [cOp'] at hv hk
  cases hs : P.underlying src with
  | none => simp [hs, evalQ] at hv
  | some ds =>
    cases hd : P.underlying dst with
    | none => simp [hs, hd, evalQ] at hv
    | some dd =>
      rw [hs, hd] at hv hk
      split at hv
      · rename_i k e1 e2
        cases e2
        simp only [evalQ] at hv
        generalize ev x = vx at *
        generalize ea x = ux at *
        cases hx <;> (try simp only at hv) <;> try (cases hv; done)
        cases hv
        exact ⟨_, by simp [convert, run_und hs, run_und hd, Conv.intToInt], .int _ _⟩
      · rename_i e1 e2
        cases e1; cases e2
        simp only [evalQ] at hv
        generalize ev x = vx at *
        generalize ea x = ux at *
        cases hx <;> (try simp only at hv) <;> try (cases hv; done)
        cases hv
        exact ⟨_, by simp [convert, run_und hs, run_und hd], .string _⟩
      · rename_i e e1 e2
        cases e1; cases e2
        cases he : P.underlying e with
        | none => simp [he, evalQ] at hv
        | some de =>
          rw [he] at hv
          split at hv
          · rename_i e3
            cases e3
            simp only [evalQ] at hv
            obtain ⟨v', h1, h2⟩ := q_bytes (P := P) hS hx hv
            refine ⟨v', ?_, h2⟩
            have hsl : (∃ l c, ea x = .slice none l c) ∨ ∃ r o l c, ea x = .slice (some ⟨r, o, none⟩) l c := by
              generalize ev x = vx at hv hx
              generalize ea x = ux at hx
              cases hx <;> (try simp only at hv) <;> try (cases hv; done)
              · exact .inl ⟨_, _, rfl⟩
              · exact .inr ⟨_, _, _, _, rfl⟩
            rcases hsl with ⟨l, c, e⟩ | ⟨r, o, l, c, e⟩ <;> rw [e] at h1 ⊢ <;>
              simp [convert, run_und hs, run_und hd, run_und he, h1]
          · simp [evalQ] at hv
      · rename_i e e1 e2
        cases e1; cases e2
        simp only at hk hv
        cases he : P.underlying e with
        | none => simp [he, evalQ] at hv
        | some de =>
          rw [he] at hv
          split at hv <;> simp [evalQ] at hv
      · rename_i t e1 e2
        cases e1; cases e2
        cases hn : cSize P t with
        | none => simp [hn, evalQ] at hv
        | some n =>
          simp only [hn] at hv
          split at hv
          · simp [evalQ] at hv
          · rename_i hn0
            simp only [evalQ] at hv
            generalize ev x = vx at *
            generalize ea x = ux at *
            cases hx <;> (try simp only at hv) <;> try (cases hv; done)
            rename_i b b' xx o hb
            split at hv
            · rename_i cs ce csp cfz hg
              split at hv
              · rename_i ho
                cases hv
                obtain ⟨r', x', o', k1, k2, k3⟩ := hS.blk b _ hg
                rw [hb] at k1; cases k1
                unfold cSize at hn
                cases hi : P.info? t with
                | none => simp [hi] at hn
                | some i =>
                  simp [hi] at hn
                  subst hn
                  cases k3 with
                  | @cells _ cs' rest _ _ _ lo hi' k4 k5 k6 =>
                    refine ⟨_, Lib.run_to_unsafe w ⟨_, o, none⟩ hs hd hi hn0 (e := ce) (cells := (cs' ++ rest).length) ?_ ?_, .ptr hb⟩
                    · simp [World.shape?, k2]
                    · have := k4.1
                      simp only [List.length_append]
                      omega
              · cases hv
            · cases hv
      · rename_i u e1 e2
        cases e1; cases e2
        cases hn : cSize P u with
        | none => simp [hn, evalQ] at hv
        | some n =>
          simp only [hn] at hv
          split at hv
          · rename_i hcond
            obtain ⟨hn0, hl⟩ := hcond
            simp only [evalQ] at hv
            generalize ev x = vx at *
            generalize ea x = ux at *
            cases hx <;> (try simp only at hv) <;> try (cases hv; done)
            rename_i b b' xx o hb
            split at hv
            · rename_i heq
              cases heq
              split at hv
              · rename_i cs ce cfz hg
                split at hv
                · rename_i ho
                  obtain ⟨rfl, hlen⟩ := ho
                  cases hv
                  obtain ⟨r', x', o', k1, k2, k3⟩ := hS.blk b _ hg
                  rw [hb] at k1; cases k1
                  unfold cSize at hn
                  cases hi : P.info? ce with
                  | none => simp [hi] at hn
                  | some i =>
                    cases k3 with
                    | @cells _ cs' rest _ _ _ lo hi' k4 k5 k6 =>
                      refine ⟨_, Lib.run_from_unsafe w ⟨_, 0, none⟩ hs hd hi (e := ce) (cells := cs.length) ?_ ?_, .ptr hb⟩
                      · have h1 := k5.1
                        subst h1
                        simp [World.shape?, k2, k4.1]
                      · rw [hlen]; exact hl
                · cases hv
              · cases hv
            · cases hv
          · simp [evalQ] at hv
      · simp [evalQ] at hv

theorem findE_ok {k : Value} : ∀ {es es' : List MapEntry} (n : Nat), es.length = es'.length →
    (∀ (i : Nat) e e', es[i]? = some e → es'[i]? = some e' → closed e.key = true ∧ e'.key = e.key ∧ e'.born = e.born ∧ Rv ρ e.val e'.val) →
    keysOk es = true → (∃ s, k = .string s) →
    match findE k es with
    | some v => ∃ i v', Instr.findNow .string k es' n = some (some (i, v')) ∧ Rv ρ v v'
    | none => Instr.findNow .string k es' n = some none
  | [], es', n, hl, H, hk, hs => by
    have : es' = [] := List.eq_nil_of_length_eq_zero hl.symm
    subst this; simp [findE, Instr.findNow]
  | e :: es, es', n, hl, H, hk, ⟨s, hs⟩ => by
    subst hs
    cases es' with
    | nil => simp at hl
    | cons e' es' =>
      have h0 := H 0 e e' rfl rfl
      have ih := findE_ok (k := .string s) (n + 1) (by simpa using hl) (fun i a b h1 h2 => H (i + 1) a b h1 h2)
      unfold keysOk at hk
      split at hk
      · rename_i b hb
        have ih := ih hk ⟨s, rfl⟩
        simp only [findE, hb]
        have hkey : e'.key = .string b := by rw [h0.2.1, hb]
        by_cases hab : (s == b) = true
        · rw [if_pos hab]
          refine ⟨n, e'.val, ?_, h0.2.2.2⟩
          simp only [Instr.findNow, hkey, Instr.sameNow, hab]
        · rw [if_neg hab]
          have hf : (s == b) = false := by simpa using hab
          cases hfe : findE (.string s) es with
          | some v =>
            rw [hfe] at ih
            obtain ⟨i, v', h1, h2⟩ := ih
            exact ⟨i, v', by simp only [Instr.findNow, hkey, Instr.sameNow, hf]; exact h1, h2⟩
          | none =>
            rw [hfe] at ih
            simp only [Instr.findNow, hkey, Instr.sameNow, hf]; exact ih
      · cases hk

theorem checkKey_string {empty : Bool} {t : TypeId} (hk : P.underlying t = some .string) (s : ByteArray) (n : Nat) : (Instr.checkKey empty (n + 1) t (.string s)).run P w = .ok () w := by
  simp [Instr.checkKey, run_und hk]

theorem Sim.mapAt (hS : Sim ρ g w) {b r x : Nat} {es : List MapEntry} {cl : Nat} (hb : ρ b = some (r, x)) (hg : g b = some (.map es cl)) :
    ∃ es', w.heap[r]? = some (.map ⟨es'⟩ cl) ∧ es.length = es'.length ∧
      (∀ (i : Nat) e e', es[i]? = some e → es'[i]? = some e' → closed e.key = true ∧ e'.key = e.key ∧ e'.born = e.born ∧ Rv ρ e.val e'.val) := by
  obtain ⟨r', x', o', h1, h2, h3⟩ := hS.blk b _ hg
  rw [hb] at h1; cases h1
  cases h3 with
  | map h4 h5 h6 => exact ⟨_, h2, h4, h5⟩

theorem run_getObj {r : Nat} {es : Array MapEntry} {cl : Nat} (h : w.heap[r]? = some (.map es cl)) : (getObj r).run P w = .ok (.map es cl) w := by
  simp [getObj, Sem.run, h]

theorem q_lookup (hS : Sim ρ g w) (t : TypeId) (x i : Operand) (ok : Bool) (hx : Rv ρ (ev x) (ea x)) (hi : Rv ρ (ev i) (ea i)) {v : Value}
    (hv : evalQ P ev g (cOp' P (.lookup t x i ok)) = some v) : ∃ v', (Instr.lookup t (ea x) (ea i) ok).run P w = .ok v' w ∧ Rv ρ v v' := by
  simp only [cOp'] at hv
  cases hd : P.underlying t with
  | none => simp [hd, evalQ] at hv
  | some d =>
    cases d <;> simp only [hd] at hv <;> try (simp [evalQ] at hv; done)
    rename_i k e
    cases hk : P.underlying k with
    | none => simp [hk, evalQ] at hv
    | some dk =>
      cases hz : cZero P e with
      | none => rw [hk, hz] at hv; split at hv <;> simp_all [evalQ]
      | some z =>
        rw [hk, hz] at hv
        split at hv <;> try (simp [evalQ] at hv; done)
        rename_i z' e1 e2
        cases e1; cases e2
        have hzr : Rv ρ z z := closed_refl (cZero_closed hz).1
        have fin : ∀ (u u' : Value) (b : Bool), Rv ρ u u' → Rv ρ (if ok then .tuple #[u, .bool b] else u) (if ok then .tuple #[u', .bool b] else u') := by
          intro u u' b hu
          cases ok
          · exact hu
          · exact Rv.tuple' (a := [u, .bool b]) (a' := [u', .bool b]) (.cons hu (.cons (.bool b) .nil))
        simp only [evalQ] at hv
        generalize ev x = vx at *
        generalize ea x = ux at *
        generalize ev i = vi at *
        generalize ea i = ui at *
        cases hx <;> (try simp only at hv) <;> try (cases hv; done)
        case mapNil =>
          cases hi <;> (try simp only at hv) <;> try (cases hv; done)
          cases hv
          rename_i s
          refine ⟨_, ?_, fin z z false hzr⟩
          simp only [Instr.lookup, Sem.run_bind, run_und hd, Result.andThen_ok, Sem.run_pure, checkKey_string hk s 9999, Instr.findKey, run_und hk]
          simp [Instr.findNow, run_zero hz]
        case map b b' xx hb =>
          cases hi <;> (try simp only at hv) <;> try (cases hv; done)
          rename_i s
          cases hg : g b with
          | none => simp [hg] at hv
          | some ob =>
            cases ob with
            | cells _ _ _ _ => simp [hg] at hv
            | map es cl =>
              simp only [hg] at hv
              split at hv
              case isFalse => cases hv
              rename_i hko
              obtain ⟨es', h1, h2, h3⟩ := hS.mapAt hb hg
              have hf := findE_ok (ρ := ρ) (k := .string s) 0 h2 h3 hko ⟨s, rfl⟩
              cases hfe : findE (.string s) es with
              | some u =>
                rw [hfe] at hf hv
                obtain ⟨j, u', h4, h5⟩ := hf
                cases hv
                refine ⟨_, ?_, fin u u' true h5⟩
                simp only [Instr.lookup, Sem.run_bind, run_und hd, Result.andThen_ok, run_getObj h1, Sem.run_pure, checkKey_string hk s 9999, Instr.findKey, run_und hk]
                simp [h4]
              | none =>
                rw [hfe] at hf hv
                cases hv
                refine ⟨_, ?_, fin z z false hzr⟩
                simp only [Instr.lookup, Sem.run_bind, run_und hd, Result.andThen_ok, run_getObj h1, Sem.run_pure, checkKey_string hk s 9999, Instr.findKey, run_und hk]
                simp [hf, run_zero hz]

theorem q_part {t : TypeId} {r : Option Nat} (hA : cAgg P t = some r) {cs cs' : List Value} (hc : Rvs ρ cs cs') (off : Nat) {v : Value}
    (hv : (match (generalizing := false) r with | some n => if off + n ≤ cs.length then some (.agg ⟨(cs.drop off).take n⟩) else none | none => cs[off]? : Option Value) = some v) :
    ∃ v', (part t ⟨cs'⟩ off).run P w = .ok v' w ∧ Rv ρ v v' := by
  obtain ⟨d, hd, hrun, hn⟩ := run_isAgg (w := w) hA
  cases r with
  | some n =>
    simp only at hv
    split at hv
    · cases hv
      refine ⟨_, ?_, Rv.agg' ((hc.drop off).take n)⟩
      simp only [part, Sem.run_bind, hrun, Result.andThen_ok, Option.isSome_some, if_true, run_size (hn n rfl), Sem.run_pure]
      congr 2
      apply Array.ext'
      simp [List.extract_eq_take_drop]
    · cases hv
  | none =>
    simp only at hv
    obtain ⟨v', h1, h2⟩ := hc.get hv
    refine ⟨v', ?_, h2⟩
    simp [part, hrun, h1]

theorem q_field (t : TypeId) (x : Operand) (f : Nat) (hx : Rv ρ (ev x) (ea x)) {v : Value}
    (hv : evalQ P ev g (cOp' P (.field t x f)) = some v) : ∃ v', (Instr.field t (ea x) f).run P w = .ok v' w ∧ Rv ρ v v' := by
  simp only [cOp'] at hv
  cases hd : P.underlying t with
  | none => simp [hd, evalQ] at hv
  | some d =>
    cases d <;> simp only [hd] at hv <;> try (simp [evalQ] at hv; done)
    rename_i fs
    cases hf : fs.toList[f]? with
    | none => rw [hf] at hv; simp [evalQ] at hv
    | some fl =>
      rw [hf] at hv
      cases hA : cAgg P fl.type with
      | none => simp [hA, evalQ] at hv
      | some r =>
        simp only [hA, evalQ] at hv
        generalize ev x = vx at *
        generalize ea x = ux at *
        cases hx <;> (try simp only at hv) <;> try (cases hv; done)
        rename_i a a' h1 h2
        obtain ⟨v', h3, h4⟩ := q_part (P := P) (w := w) (ρ := ρ) hA (cs := a) (cs' := a') ⟨h1, h2⟩ fl.offset hv
        refine ⟨v', ?_, h4⟩
        have hf' : fs[f]? = some fl := by rw [← hf]; simp
        simp only [Instr.field, Sem.run_bind, run_und hd, Result.andThen_ok, hf', asAgg, Sem.run_pure, h3]

theorem q_index (t : TypeId) (x i : Operand) (hx : Rv ρ (ev x) (ea x)) (hi : Rv ρ (ev i) (ea i)) {v : Value}
    (hv : evalQ P ev g (cOp' P (.index t x i)) = some v) : ∃ v', (Instr.index t (ea x) (ea i)).run P w = .ok v' w ∧ Rv ρ v v' := by
  simp only [cOp'] at hv
  cases hd : P.underlying t with
  | none => simp [hd, evalQ] at hv
  | some d =>
    cases d <;> simp only [hd] at hv <;> try (simp [evalQ] at hv; done)
    case string =>
      simp only [evalQ] at hv
      generalize ev x = vx at *
      generalize ea x = ux at *
      generalize ev i = vi at *
      generalize ea i = ui at *
      cases hx <;> (try simp only at hv) <;> try (cases hv; done)
      cases hi <;> (try simp only at hv) <;> try (cases hv; done)
      split at hv
      case isFalse => cases hv
      rename_i s k j h0
      simp only [Option.map_eq_some_iff] at hv
      obtain ⟨b, hb, rfl⟩ := hv
      refine ⟨_, ?_, .int _ _⟩
      have hb' : s[j.toNat]? = some b := by
        have hlt := (List.getElem?_eq_some_iff.1 hb).1
        have hv := (List.getElem?_eq_some_iff.1 hb).2
        have hsz : j.toNat < s.size := by simpa using hlt
        rw [getElem?_pos s j.toNat hsz]
        congr 1
      simp [Instr.index, asIntOf, run_und hd, h0, hb']
    case array n e =>
      cases hs : cSize P e with
      | none => simp [hs, evalQ] at hv
      | some sz =>
        cases hA : cAgg P e with
        | none => simp [hs, hA, evalQ] at hv
        | some r =>
          simp only [hs, hA, evalQ] at hv
          generalize ev x = vx at *
          generalize ea x = ux at *
          generalize ev i = vi at *
          generalize ea i = ui at *
          cases hx <;> (try simp only at hv) <;> try (cases hv; done)
          cases hi <;> (try simp only at hv) <;> try (cases hv; done)
          rename_i a a' h1 h2 k j
          split at hv
          case isFalse => cases hv
          rename_i hj
          obtain ⟨v', h3, h4⟩ := q_part (P := P) (w := w) (ρ := ρ) hA (cs := a) (cs' := a') ⟨h1, h2⟩ (j.toNat * sz) hv
          refine ⟨v', ?_, h4⟩
          simp [Instr.index, asIntOf, run_und hd, hj, run_size hs, h3]

theorem q_indexAddr (t : TypeId) (x i : Operand) (hx : Rv ρ (ev x) (ea x)) (hi : Rv ρ (ev i) (ea i)) {v : Value}
    (hv : evalQ P ev g (cOp' P (.indexAddr t x i)) = some v) : ∃ v', (Instr.indexAt t (ea x) (ea i)).run P w = .ok v' w ∧ Rv ρ v v' := by
  simp only [cOp'] at hv
  cases hd : P.underlying t with
  | none => simp [hd, evalQ] at hv
  | some d =>
    cases d <;> simp only [hd] at hv <;> try (simp [evalQ] at hv; done)
    case slice e =>
      cases hs : cSize P e with
      | none => simp [hs, evalQ] at hv
      | some sz =>
        simp only [hs, evalQ] at hv
        generalize ev x = vx at *
        generalize ea x = ux at *
        generalize ev i = vi at *
        generalize ea i = ui at *
        cases hx <;> (try simp only at hv) <;> try (cases hv; done)
        cases hi <;> (try simp only at hv) <;> try (cases hv; done)
        rename_i hb k j
        split at hv
        case isFalse => cases hv
        rename_i hj
        cases hv
        refine ⟨_, ?_, .ptr hb⟩
        simp [Instr.indexAt, asIntOf, run_und hd, hj, run_size hs, add_off]
    case array n e =>
      cases hs : cSize P e with
      | none => simp [hs, evalQ] at hv
      | some sz =>
        simp only [hs, evalQ] at hv
        generalize ev x = vx at *
        generalize ea x = ux at *
        generalize ev i = vi at *
        generalize ea i = ui at *
        cases hx <;> (try simp only at hv) <;> try (cases hv; done)
        cases hi <;> (try simp only at hv) <;> try (cases hv; done)
        rename_i hb k j
        split at hv
        case isFalse => cases hv
        rename_i hj
        cases hv
        refine ⟨_, ?_, .ptr hb⟩
        simp [Instr.indexAt, asIntOf, run_und hd, hj, run_size hs, add_off, Instr.sureAddr]

theorem q_fieldAddr (t : TypeId) (x : Operand) (f : Nat) (hx : Rv ρ (ev x) (ea x)) {v : Value}
    (hv : evalQ P ev g (cOp' P (.fieldAddr t x f)) = some v) : ∃ v', (Instr.fieldAt t (ea x) f).run P w = .ok v' w ∧ Rv ρ v v' := by
  simp only [cOp'] at hv
  cases hd : P.underlying t with
  | none => simp [hd, evalQ] at hv
  | some d =>
    cases d <;> simp only [hd] at hv <;> try (simp [evalQ] at hv; done)
    rename_i fs
    cases hf : fs.toList[f]? with
    | none => rw [hf] at hv; simp [evalQ] at hv
    | some fl =>
      rw [hf] at hv
      cases hs : cSize P fl.type with
      | none => simp [hs, evalQ] at hv
      | some n =>
        simp only [hs] at hv
        split at hv
        · simp [evalQ] at hv
        · rename_i hn
          simp only [evalQ] at hv
          generalize ev x = vx at *
          generalize ea x = ux at *
          cases hx <;> (try simp only at hv) <;> try (cases hv; done)
          rename_i hb
          cases hv
          have hf' : fs[f]? = some fl := by rw [← hf]; simp
          refine ⟨_, ?_, .ptr hb⟩
          simp [Instr.fieldAt, run_und hd, hf', Instr.sureAddr, fieldPlace, run_size hs, hn, add_off]

theorem q_len (hS : Sim ρ g w) (t ty : TypeId) (x : Operand) (hx : Rv ρ (ev x) (ea x)) {v : Value}
    (hv : evalQ P ev g (match P.underlying t with
      | some .string => .len 0 x
      | some (.slice _) => .len 1 x
      | some (.map ..) => .len 2 x
      | some (.array n _) => .lenC n
      | _ => .bad) = some v) : ∃ v', (Builtin.len_ #[t] ty #[ea x]).run P w = .ok v' w ∧ Rv ρ v v' := by
  cases hd : P.underlying t with
  | none => simp [hd, evalQ] at hv
  | some d =>
    cases d <;> simp only [hd] at hv <;> try (simp [evalQ] at hv; done)
    case array n e => simp only [evalQ] at hv; cases hv; exact ⟨_, by simp [Builtin.len_, run_und hd, goInt], .int _ _⟩
    all_goals
      simp only [evalQ] at hv
      generalize ev x = vx at *
      generalize ea x = ux at *
      cases hx <;> (try simp only at hv) <;> try (cases hv; done)
    case string.string s => cases hv; exact ⟨_, by simp [Builtin.len_, run_und hd, goInt], .int _ _⟩
    case slice.sliceNil l c => cases hv; exact ⟨_, by simp [Builtin.len_, run_und hd, goInt], .int _ _⟩
    case slice.slice hb => cases hv; exact ⟨_, by simp [Builtin.len_, run_und hd, goInt], .int _ _⟩
    case map.mapNil => cases hv; exact ⟨_, by simp [Builtin.len_, run_und hd, goInt], .int _ _⟩
    case map.map b b' xx hb =>
      cases hg : g b with
      | none => simp [hg] at hv
      | some ob =>
        cases ob with
        | cells _ _ _ _ => simp [hg] at hv
        | map es cl =>
          simp [hg] at hv
          subst hv
          obtain ⟨es', h1, h2, h3⟩ := hS.mapAt hb hg
          refine ⟨_, ?_, .int _ _⟩
          simp [Builtin.len_, run_und hd, goInt, run_getObj h1, h2]
end
end Go.Am
