import Derived.Test.YtikphefllmemjaaGreatDoorAm11
/-
The engine, part 12: the theorem on acts that are no calls.
-/
namespace Go.Am
open Go
set_option linter.unusedVariables false
set_option linter.unusedSimpArgs false

section
variable {P : Program} {ρ : Ren} {g : VH} {w : World} {ev : Operand → Value} {ea : Operand → Value} {h h' : AH}

theorem bytes_eq {a b : ByteArray} (h : (a == b) = true) : a = b := by
  cases a; cases b; rename_i x y
  have : (x == y) = true := h
  rw [eq_of_beq this]
theorem bytes_beq (a : ByteArray) : (a == a) = true := by
  cases a; rename_i x
  show (x == x) = true
  exact beq_self_eq_true x

theorem strToBytes_sound (hS : Sim ρ h.get w) (e : TypeId) (s : ByteArray) (hN : ρ h.next = none) :
    ∃ v' w' ρ', (Conv.stringToBytes e s).run P w = .ok v' w' ∧
      Acted ρ h w (.slice (some ⟨h.next, 0, none⟩) s.size s.size) (h.add (.cells (s.data.toList.map fun b => .int .u8 b.toNat) e (some 1) 0)) v' w' ρ' := by
  have hge : s.size ≤ grownCap w s.size 0 e := grownCap_ge w s.size 0 e
  have hlen : (s.data.toList.map fun b => Value.int .u8 b.toNat).length = s.size := by simp
  let c : List Value := (s.data.toList.map fun b => Value.int .u8 b.toNat) ++ List.replicate (grownCap w s.size 0 e - s.size) (.int .u8 0)
  have hcl : c.length = grownCap w s.size 0 e := by simp only [c, List.length_append, hlen, List.length_replicate]; omega
  have hR : RObj (ρ.with h.next (w.heap.size, grownCap w s.size 0 e - s.size)) (grownCap w s.size 0 e - s.size) (.cells (s.data.toList.map fun b => .int .u8 b.toNat) e (some 1) 0) (.cells ⟨c⟩ e (grownCap w s.size 0 e, grownCap w s.size 0 e + 1)) := by
    refine .cells ⟨rfl, fun i v v' a b => ?_⟩ (by simp) (fun off h1 h2 h3 => ?_)
    · rw [a] at b; cases b
      rw [List.getElem?_map, Option.map_eq_some_iff] at a
      obtain ⟨u, _, rfl⟩ := a
      exact .int _ _
    · rw [hlen, List.length_replicate] at h1; omega
  let w1 : World := { w with heap := w.heap.push (.cells ⟨c⟩ e (grownCap w s.size 0 e, grownCap w s.size 0 e + 1)), drawn := w.drawn + 1 }
  obtain ⟨s1, s2⟩ := hS.add (w' := w1) (o' := .cells ⟨c⟩ e (grownCap w s.size 0 e, grownCap w s.size 0 e + 1)) hN rfl rfl rfl hR
  refine ⟨.slice (some ⟨w.heap.size, 0, none⟩) s.size (grownCap w s.size 0 e), w1, ρ.with h.next (w.heap.size, grownCap w s.size 0 e - s.size), ?_, ⟨?_, ?_, ?_, AH.le_add _ _, fun b hb => only_add (fun e => hb (by first | exact isNew_add.2 e | exact isNew_padd.2 e))⟩⟩
  · have e1 : (s.data.map fun b => Value.int .u8 b.toNat) ++ Array.replicate (grownCap w s.size 0 e - s.size) (Value.int .u8 0) = ⟨c⟩ := by apply Array.ext'; simp [c]
    have e2 : (choose (.appendCap s.size 0 e)).run P w = .ok (grownCap w s.size 0 e) w.drew := by
      simp [choose, Sem.run, Question.forced, grownCap]
    simp only [Conv.stringToBytes, Sem.run_bind, e2, Result.andThen_ok, e1, newRow]
    simp only [run_newObj, Result.andThen_ok, Sem.run_pure, markStringish, Sem.run_bind, run_shape]
    have e3 : ({ w.drew with heap := w.drew.heap.push (.cells ⟨c⟩ e) } : World).shape? w.heap.size = some (e, c.length) := by
      have : w.drew.heap = w.heap := rfl
      simp [World.shape?, this]
    have e4 : w.drew.heap.size = w.heap.size := rfl
    simp only [e4]
    rw [e3]
    simp only [run_freeze, Result.andThen_ok, Sem.run_bind, Sem.run_pure]
    congr 1
    simp only [World.freeze, hcl, w1]
    simp only [show (1 : Nat) = 0 ↔ False by simp, if_false]
    congr 1
    apply Array.ext_getElem?
    intro j
    simp only [Array.getElem?_modify, Array.getElem?_push]
    have hd : w.drew.heap = w.heap := rfl
    by_cases hj : w.heap.size = j
    · subst hj; simp [hd]
    · have : ¬ j = w.heap.size := fun e => hj e.symm
      simp [hj, hd, this]
  · have := Rv.slice (ρ := ρ.with h.next (w.heap.size, grownCap w s.size 0 e - s.size)) (b := h.next) (o := 0) (l := s.size) (c := s.size) Ren.with_same
    rwa [show s.size + (grownCap w s.size 0 e - s.size) = grownCap w s.size 0 e by omega] at this
  · rw [get_add_eq]; exact s1
  · rw [get_add_eq]; exact s2

theorem modifyE_ok {k : ByteArray} {v v' : Value} (hv : Rv ρ v v') : ∀ {es es' : List MapEntry} (n : Nat), es.length = es'.length →
    (∀ (i : Nat) e e', es[i]? = some e → es'[i]? = some e' → closed e.key = true ∧ e'.key = e.key ∧ e'.born = e.born ∧ Rv ρ e.val e'.val) →
    keysOk es = true →
    match modifyE (.string k) v es with
    | some r => ∃ i u, Instr.findNow .string (.string k) es' n = some (some (n + i, u)) ∧ (es'[i]?.map (·.key)) = some (.string k) ∧
        r.length = es'.length ∧ (∀ (j : Nat) e e', r[j]? = some e → (es'.modify i fun e => { e with key := .string k, val := v' })[j]? = some e' → closed e.key = true ∧ e'.key = e.key ∧ e'.born = e.born ∧ Rv ρ e.val e'.val)
    | none => Instr.findNow .string (.string k) es' n = some none
  | [], es', n, hl, H, hk => by
    have : es' = [] := List.eq_nil_of_length_eq_zero hl.symm
    subst this; simp [modifyE, Instr.findNow]
  | e :: es, es', n, hl, H, hk => by
    cases es' with
    | nil => simp at hl
    | cons e' es' =>
      have h0 := H 0 e e' rfl rfl
      have ih := modifyE_ok (k := k) hv (n + 1) (show es.length = es'.length by simpa using hl) (fun i a b h1 h2 => H (i + 1) a b h1 h2)
      unfold keysOk at hk
      split at hk
      · rename_i b hb
        have ih := ih hk
        have hkey : e'.key = .string b := by rw [h0.2.1, hb]
        simp only [modifyE, hb]
        by_cases hab : (k == b) = true
        · rw [if_pos hab]
          have hkb : k = b := bytes_eq hab
          refine ⟨0, e'.val, ?_, ?_, by simpa using hl, fun j a a' h1 h2 => ?_⟩
          · simp only [Instr.findNow, hkey, Instr.sameNow, hab, Nat.add_zero]
          · simp [hkey, hkb]
          · cases j with
            | zero =>
              simp at h1 h2
              subst h1; subst h2
              exact ⟨rfl, rfl, h0.2.2.1, hv⟩
            | succ j =>
              simp at h1 h2
              exact H (j + 1) a a' h1 h2
        · rw [if_neg hab]
          have hf : (k == b) = false := by simpa using hab
          cases hfe : modifyE (.string k) v es with
          | some r =>
            rw [hfe] at ih
            obtain ⟨i, u, h1, h2, h3, h4⟩ := ih
            refine ⟨i + 1, u, ?_, by simpa using h2, by simp [h3], fun j a a' k1 k2 => ?_⟩
            · simp only [Instr.findNow, hkey, Instr.sameNow, hf]; rw [h1, show n + 1 + i = n + (i + 1) by omega]
            · cases j with
              | zero => simp at k1 k2; subst k1; subst k2; exact h0
              | succ j => simp at k1 k2; exact h4 j a a' k1 k2
          | none =>
            rw [hfe] at ih
            simp only [Instr.findNow, hkey, Instr.sameNow, hf]; exact ih
      · cases hk

theorem run_setObj {r : Nat} {es : Array MapEntry} {cl : Nat} {o : Obj} (hh : w.heap[r]? = some (.map es cl)) : (setObj r o).run P w = .ok () (setB w r o) := by
  simp [setObj, Sem.run, hh, setB]

theorem mapUpdate_sound (hS : Sim ρ h.get w) {t kt et : TypeId} (ht : P.underlying t = some (.map kt et)) (hkt : P.underlying kt = some .string) (m k x : Operand)
    (hm : Rv ρ (ev m) (ea m)) (hk : Rv ρ (ev k) (ea k)) (hx : Rv ρ (ev x) (ea x)) {v : Value} (hv : evalE ev h (.mapUpdate m k x) = some (v, h')) :
    ∃ w', (Instr.mapUpdate t (ea m) (ea k) (ea x)).run P w = .ok () w' ∧ v = undef ∧ Acted ρ h w v h' undef w' ρ := by
  simp only [evalE] at hv
  have h5 : ∃ r s, ev m = .map (some r) ∧ ev k = .string s := by
    revert hv; generalize ev m = vm; generalize ev k = vk; intro hv
    split at hv
    · exact ⟨_, _, rfl, rfl⟩
    · cases hv
  obtain ⟨b, s, e1, e2⟩ := h5
  rw [e1, e2] at hv
  rw [e1] at hm
  rw [e2] at hk
  simp only at hv
  have h6 : ∃ r xx, ea m = .map (some r) ∧ ρ b = some (r, xx) := by generalize ea m = um at hm; cases hm; exact ⟨_, _, rfl, by assumption⟩
  obtain ⟨r, xx, e3, hb⟩ := h6
  cases hg : h.get b with
  | none => simp [hg] at hv
  | some ob =>
    cases ob with
    | cells _ _ _ _ => simp [hg] at hv
    | map es cl =>
      simp only [hg] at hv
      split at hv
      case isFalse => cases hv
      rename_i hko
      obtain ⟨r', x', o', k1, k2, k3⟩ := hS.blk b _ hg
      rw [hb] at k1; cases k1
      cases k3 with
      | @map _ es' _ k4 k5 k6 =>
        subst k6
        have hf := modifyE_ok (ρ := ρ) (k := s) (v := ev x) (v' := ea x) hx 0 k4 k5 hko
        have hrun : ∀ (o : Obj), (∀ w : World, True) → True := fun _ _ => trivial
        cases hfe : modifyE (.string s) (ev x) es with
        | some r2 =>
          rw [hfe] at hf hv
          obtain ⟨i, u, f1, f2, f3, f4⟩ := hf
          simp only [Option.some.injEq, Prod.mk.injEq] at hv
          obtain ⟨rfl, rfl⟩ := hv
          have hR : RObj ρ 0 (.map r2 cl) (.map ⟨es'.modify i fun e => { e with key := .string s, val := ea x }⟩ cl) := .map (by simp [f3]) f4 rfl
          obtain ⟨s1, s2⟩ := hS.turn hb hg hR
          refine ⟨_, ?_, rfl, ⟨Rv.undef, by rw [get_put_eq]; exact s1, by rw [get_put_eq]; exact s2, (by first | exact AH.le_put _ _ _ | exact AH.le_refl _), fun _ _ => rfl⟩⟩
          have f2' : (es'[i]?.map (·.key)).getD (.string s) = .string s := by rw [f2]; rfl
          simp only [Instr.mapUpdate, Sem.run_bind, run_und ht, Result.andThen_ok, e3, hk.string_inv, run_getObj k2, checkKey_string hkt s 9999, Instr.findKey, run_und hkt]
          simp only [Nat.zero_add] at f1
          rw [f1]
          simp only [Sem.run_pure, Result.andThen_ok]
          have f3' : (((⟨es'⟩ : Array MapEntry)[i]?).map (·.key)).getD (.string s) = .string s := by simpa using f2'
          rw [f3']
          have hst : (Instr.keyThatStays (.string s) (.string s)).run P w = .ok (.string s) w := by
            simp [Instr.keyThatStays, Instr.sameBits, bytes_beq]
          simp only [Sem.run_bind, hst, Result.andThen_ok]
          rw [run_setObj k2]
          congr 3
          simp
        | none =>
          rw [hfe] at hf hv
          simp only [Option.some.injEq, Prod.mk.injEq] at hv
          obtain ⟨rfl, rfl⟩ := hv
          have hR : RObj ρ 0 (.map (es ++ [{ key := .string s, val := ev x, born := cl }]) (cl + 1)) (.map ⟨es' ++ [{ key := .string s, val := ea x, born := cl }]⟩ (cl + 1)) := by
            refine .map (by simp [k4]) (fun j a a' h1 h2 => ?_) rfl
            rw [List.getElem?_append] at h1 h2
            rw [k4] at h1
            split at h1
            · rename_i hj; rw [if_pos hj] at h2; exact k5 j a a' h1 h2
            · rename_i hj
              rw [if_neg hj] at h2
              by_cases hj0 : j - es'.length = 0
              · rw [hj0] at h1 h2
                simp at h1 h2
                subst h1; subst h2
                exact ⟨rfl, rfl, rfl, hx⟩
              · rw [List.getElem?_eq_none (by simp; omega)] at h1; cases h1
          obtain ⟨s1, s2⟩ := hS.turn hb hg hR
          refine ⟨_, ?_, rfl, ⟨Rv.undef, by rw [get_put_eq]; exact s1, by rw [get_put_eq]; exact s2, (by first | exact AH.le_put _ _ _ | exact AH.le_refl _), fun _ _ => rfl⟩⟩
          simp only [Instr.mapUpdate, Sem.run_bind, run_und ht, Result.andThen_ok, e3, hk.string_inv, run_getObj k2, checkKey_string hkt s 9999, Instr.findKey, run_und hkt]
          rw [hf]
          simp only [Sem.run_pure, Result.andThen_ok]
          rw [run_setObj k2]
          congr 3
          simp

/-- a block that is known no more from here on -/
theorem Sim.drop {g : VH} (hS : Sim ρ g w) {b r x : Nat} {o0 : VObj} {o' : Obj} (hb : ρ b = some (r, x)) (hg : g b = some o0) :
    Sim ρ (g.with b none) (setB w r o') ∧ Ext ρ g w ρ (g.with b none) (setB w r o') := by
  have hlt := hS.lt hb hg
  have old : ∀ {c o1}, g.with b none c = some o1 → g c = some o1 ∧ c ≠ b := by
    intro c o1 hc; unfold VH.with at hc; split at hc
    · cases hc
    · exact ⟨hc, by assumption⟩
  refine ⟨⟨hS.fix, fun c o2 hc => ?_, fun c d o1 o2 r2 y z hc hd h1 h2 => ?_⟩, ⟨Ren.le_refl _, rfl, rfl, by simp [setB], fun r2 hr hn => ?_, fun c o2 r2 y hc h1 hr => ?_⟩⟩
  · obtain ⟨hc, hcb⟩ := old hc
    obtain ⟨r2, y, o3, h1, h2, h3⟩ := hS.blk c o2 hc
    refine ⟨r2, y, o3, h1, ?_, h3⟩
    rw [setB_heap hlt, if_neg (fun h => by subst h; exact hcb (hS.inj c b _ _ _ y x hc hg h1 hb))]
    exact h2
  · exact hS.inj c d _ _ r2 y z (old hc).1 (old hd).1 h1 h2
  · rw [setB_heap hlt, if_neg (fun h => by subst h; exact hn b o0 x hg hb)]
  · exact ⟨_, _, _, (old hc).1, h1⟩

theorem freeze_setB {r n : Nat} {c : Array Value} {e : TypeId} {fr : Nat × Nat} (h : w.heap[r]? = some (.cells c e fr)) (hn : n ≠ 0) : ∃ o', w.freeze ⟨r, 0, none⟩ n = setB w r o' := by
  obtain ⟨lo, hi⟩ := fr
  have hlt := (Array.getElem?_eq_some_iff.1 h).1
  refine ⟨.cells c e (if lo == hi then (0, 0 + n) else (min lo 0, max hi (0 + n))), ?_⟩
  unfold World.freeze setB
  rw [if_neg hn]
  congr 1
  apply Array.ext_getElem?
  intro i
  simp only [Array.getElem?_modify, Array.getElem?_setIfInBounds]
  by_cases hi : r = i
  · subst hi
    have hget := (Array.getElem?_eq_some_iff.1 h).2
    simp [hlt, hget]
  · simp [hi]

theorem bytes8_eq : ∀ {cs : List Value} {l : List UInt8}, bytes8 cs = some l → cs = l.map fun x => .int .u8 x.toNat
  | [], l, h => by simp [bytes8] at h; subst h; rfl
  | v :: cs, l, h => by
    unfold bytes8 at h
    split at h
    · rename_i e; cases e
    · rename_i n rest e
      cases e
      split at h
      · rename_i hn
        simp only [Option.map_eq_some_iff] at h
        obtain ⟨l', h1, rfl⟩ := h
        rw [bytes8_eq h1]
        obtain ⟨n, rfl⟩ := Int.eq_ofNat_of_zero_le hn.1
        have hlt : n < 256 := by omega
        simp only [List.map_cons, Int.ofNat_eq_natCast, Int.toNat_natCast]
        congr 2
        rw [UInt8.toNat_ofNat_of_lt' hlt]
      · cases h
    · cases h

theorem Rvs.u8 {l : List UInt8} {l' : List Value} (h : Rvs ρ (l.map fun x => .int .u8 x.toNat) l') : l' = l.map fun x => .int .u8 x.toNat := by
  induction l generalizing l' with
  | nil => exact h.nil_inv
  | cons n ns ih =>
    obtain ⟨v', t, rfl, h1, h2⟩ := h.cons_inv
    rw [ih h2, h1.int_inv]; rfl

theorem run_unsafeString_zero (pt it ty : TypeId) (q : Option Addr) : (Builtin.unsafeString_ #[pt, it] ty #[.pointer q, .int .i64 0]).run P w = .ok (.string .empty) w := by
  cases q <;> rfl

theorem unsafeStr_sound (hS : Sim ρ h.get w) {pt it e : TypeId} (ty : TypeId) (hp : P.underlying pt = some (.pointer e)) (hc : P.cellsOf e = 1) (p n : Operand) (h1 : Rv ρ (ev p) (ea p)) (h2 : Rv ρ (ev n) (ea n)) {v : Value}
    (hv : evalE ev h (.unsafeStr e p n) = some (v, h')) :
    ∃ v' w', (Builtin.unsafeString_ #[pt, it] ty #[ea p, ea n]).run P w = .ok v' w' ∧ Acted ρ h w v h' v' w' ρ := by
  simp only [evalE] at hv
  generalize ev p = vp at *
  generalize ev n = vn at *
  split at hv
  case h_2 => cases hv
  rename_i q m
  rw [h2.int_inv]
  split at hv
  · rename_i hm
    subst hm
    cases hv
    have h3 : ∃ q', ea p = .pointer q' := by generalize ea p = up at h1; cases h1 <;> exact ⟨_, rfl⟩
    obtain ⟨q', e1⟩ := h3
    rw [e1]
    exact ⟨_, w, run_unsafeString_zero pt it ty q', ⟨.string _, hS, Ext.refl _ _ _, (by first | exact AH.le_put _ _ _ | exact AH.le_refl _), fun _ _ => rfl⟩⟩
  · rename_i hm
    split at hv
    case h_2 => cases hv
    rename_i b
    split at hv
    case h_2 => cases hv
    rename_i cs e' sp fz hg
    split at hv
    case isFalse => cases hv
    rename_i hcond
    obtain ⟨rfl, hm0, hml, hm63⟩ := hcond
    split at hv
    case h_2 => cases hv
    rename_i l hl
    cases hv
    have h3 : ∃ r x, ea p = .pointer (some ⟨r, 0, none⟩) ∧ ρ b = some (r, x) := by
      generalize ea p = up at h1; cases h1; exact ⟨_, _, rfl, by assumption⟩
    obtain ⟨r, x, e1, hb⟩ := h3
    obtain ⟨m, rfl⟩ := Int.eq_ofNat_of_zero_le (Int.le_of_lt hm0)
    simp only [Int.ofNat_eq_natCast, Int.toNat_natCast] at hl hml hm63 hm0
    obtain ⟨r', x', o', k1, k2, k3⟩ := hS.blk b _ hg
    rw [hb] at k1; cases k1
    cases k3 with
    | @cells _ cs' rest _ _ _ lo hi k4 k5 k6 =>
      have e2 := bytes8_eq hl
      have hlen : l.length = m := by
        have := congrArg List.length e2
        simp only [List.length_take, List.length_map] at this
        omega
      have e3 : cs'.take m = l.map fun x => .int .u8 x.toNat := by
        have h5 : Rvs ρ (cs.take m) (cs'.take m) := k4.take m
        rw [e2] at h5
        exact h5.u8
      have hcs := k4.1
      have run := Lib.run_unsafeString_row (P := P) (w := w) pt it ty e' hp hc r (cs' ++ rest).length (by simp [World.shape?, k2]) l (by intro h; subst h; simp at hlen; omega) (by simp only [List.length_append]; omega) (by omega)
        (fun j x hx => by
          have hj := (List.getElem?_eq_some_iff.1 hx).1
          have : (cs'.take m)[j]? = some (.int .u8 x.toNat) := by rw [e3]; simp [hx]
          rw [List.getElem?_take] at this
          rw [if_pos (by omega)] at this
          rw [add_off, Nat.zero_add, cell_at k2]
          have hj' : j < cs'.length := by omega
          simp [List.getElem?_append_left hj', this])
      obtain ⟨o2, ho2⟩ := freeze_setB (n := l.length) k2 (by omega)
      rw [ho2] at run
      obtain ⟨s1, s2⟩ := hS.drop (o' := o2) hb hg
      refine ⟨_, _, ?_, ⟨.string _, by rw [get_put_eq]; exact s1, by rw [get_put_eq]; exact s2, (by first | exact AH.le_put _ _ _ | exact AH.le_refl _), fun _ _ => rfl⟩⟩
      rw [e1]
      rw [hlen] at run
      exact run

theorem evalE_kind {io : IOp} {r : Value × AH} (k : evalE ev h io = some r) : io.kind = 2 := by
  cases io <;> first | rfl | simp [evalE] at k

theorem RObj.newMap : RObj ρ 0 (.map [] 0) (.map #[] 0) := .map (es := []) (es' := []) rfl (fun i e e' h => by simp at h) rfl

set_option maxHeartbeats 1000000 in
/-- THE THEOREM ON ACTS THAT ARE NO CALLS -/
theorem act_sound (hS : Sim ρ h.get w) (o : Oper) (H : ∀ x ∈ o.op.operands.toList, Rv ρ (ev x) (ea x)) {v : Value}
    (hv : evalE ev h (cOp P o.op) = some (v, h')) (hfr : ∀ b, isNew h h' b → ρ b = none) :
    ∃ v' w' ρ', Done ((execOp ea o).run P w) v' w' ∧ Acted ρ h w v h' v' w' ρ' := by
  have hk2 := evalE_kind hv
  unfold cOp at hv hk2
  split at hv
  case isFalse => simp [evalE] at hv
  rename_i hok
  rw [if_pos hok] at hk2
  obtain ⟨dst, op, ty, pos, after, guard⟩ := o
  simp only at *
  cases op
  case store t a x =>
    simp only [cOp'] at hv
    cases hn : cSize P t with
    | none => simp [hn, evalE] at hv
    | some n =>
      simp only [hn] at hv
      obtain ⟨w', h1, rfl, h3⟩ := store_sound (P := P) hS n t hn a x (H a (by simp [Op.operands])) (H x (by simp [Op.operands])) hv
      refine ⟨undef, w', ρ, .inr ⟨?_, rfl⟩, h3⟩
      simp [execOp, h1]
  case convert s d x =>
    simp only [cOp'] at hv
    cases hs : P.underlying s with
    | none => simp [hs, evalE] at hv
    | some ds =>
      cases hd : P.underlying d with
      | none => simp [hs, hd, evalE] at hv
      | some dd =>
        rw [hs, hd] at hv
        split at hv
        · simp [evalE] at hv
        · simp [evalE] at hv
        · split at hv <;> simp [evalE] at hv
        · rename_i e e1 e2
          cases e1; cases e2
          cases he : P.underlying e with
          | none => simp [he, evalE] at hv
          | some de =>
            rw [he] at hv
            split at hv
            · rename_i e3
              cases e3
              simp only [evalE] at hv
              have hx := H x (by simp [Op.operands])
              have h5 : ∃ b, ev x = .string b := by
                revert hv; generalize ev x = vx; intro hv
                split at hv
                · exact ⟨_, rfl⟩
                · cases hv
              obtain ⟨b, e4⟩ := h5
              rw [e4] at hv hx
              simp only [Option.some.injEq, Prod.mk.injEq] at hv
              obtain ⟨rfl, rfl⟩ := hv
              obtain ⟨v', w', ρ', h1, h2⟩ := strToBytes_sound (P := P) hS e b (hfr _ (by first | exact isNew_add.2 rfl | exact isNew_padd.2 rfl))
              refine ⟨v', w', ρ', .inl ?_, h2⟩
              simp [execOp, convert, run_und hs, run_und hd, run_und he, hx.string_inv, h1]
            · simp [evalE] at hv
        · split at hv <;> (try (simp [evalE] at hv; done))
          split at hv <;> simp [evalE] at hv
        · split at hv <;> (try (simp [evalE] at hv; done))
          split at hv <;> simp [evalE] at hv
        · simp [evalE] at hv
  case makeMap t r =>
    cases r with
    | some r => simp [cOp', evalE] at hv
    | none =>
      simp only [cOp', evalE, Option.some.injEq, Prod.mk.injEq] at hv
      obtain ⟨rfl, rfl⟩ := hv
      have hN := hfr h.next (by first | exact isNew_add.2 rfl | exact isNew_padd.2 rfl)
      obtain ⟨s1, s2⟩ := hS.add (x := 0) (w' := w.alloc (.map #[] 0)) (o' := .map #[] 0) hN rfl rfl rfl RObj.newMap
      refine ⟨.map (some w.heap.size), w.alloc (.map #[] 0), ρ.with h.next (w.heap.size, 0), .inl ?_, ⟨.map Ren.with_same, by rw [get_add_eq]; exact s1, by rw [get_add_eq]; exact s2, AH.le_add _ _, fun b hb => only_add (fun e => hb (by first | exact isNew_add.2 e | exact isNew_padd.2 e))⟩⟩
      simp [execOp, Instr.makeMap]
  case mapUpdate t m k x =>
    simp only [cOp'] at hv
    cases ht : P.underlying t with
    | none => simp [ht, evalE] at hv
    | some d =>
      cases d <;> simp only [ht] at hv <;> try (simp [evalE] at hv; done)
      rename_i kt et
      cases hkt : P.underlying kt with
      | none => simp [hkt, evalE] at hv
      | some dk =>
        rw [hkt] at hv
        split at hv
        · rename_i e1
          cases e1
          obtain ⟨w', h1, rfl, h3⟩ := mapUpdate_sound (P := P) hS ht hkt m k x (H m (by simp [Op.operands])) (H k (by simp [Op.operands])) (H x (by simp [Op.operands])) hv
          refine ⟨undef, w', ρ, .inr ⟨?_, rfl⟩, h3⟩
          simp [execOp, h1]
        · simp [evalE] at hv
  case call c =>
    simp only [cOp'] at hv
    unfold cCall at hv
    split at hv <;> try (simp [evalE] at hv; done)
    · repeat' (split at hv)
      all_goals (simp [evalE] at hv)
    · rename_i hc
      split at hv <;> try (simp [evalE] at hv; done)
      rename_i t u s x h1 h2
      cases ht : P.underlying t with
      | none => simp [ht, evalE] at hv
      | some dt =>
        cases hu : P.underlying u with
        | none => rw [ht, hu] at hv; simp [evalE] at hv
        | some du =>
          rw [ht, hu] at hv
          split at hv <;> try (simp [evalE] at hv; done)
          rename_i e d' e1 e2
          cases e1; cases e2
          cases hi : P.info? e with
          | none => simp [hi, evalE] at hv
          | some i =>
            simp only [hi] at hv
            have hcond : ((i.zero.any fun z => z.cells.size == i.size) = true ∧ 0 < i.bytes) ∧ isSrc du = true := by
              by_cases hcc : (((i.zero.any fun z => z.cells.size == i.size) && decide (0 < i.bytes)) && isSrc du) = true
              · rw [Bool.and_eq_true, Bool.and_eq_true, decide_eq_true_eq] at hcc; exact hcc
              · rw [if_neg hcc] at hv; simp [evalE] at hv
            have hv2 : evalE ev h (.append e i.size i.bytes s x) = some (v, h') := by
              rw [if_pos (by rw [Bool.and_eq_true, Bool.and_eq_true, decide_eq_true_eq]; exact hcond)] at hv; exact hv
            simp only [evalE] at hv2
            obtain ⟨⟨hz, hby⟩, hk⟩ := hcond
            cases hz0 : i.zero with
            | none => simp [hz0] at hz
            | some z =>
              simp [hz0] at hz
              have hku : (∃ e', P.underlying u = some (.slice e')) ∨ P.underlying u = some .string := by
                cases du <;> simp [isSrc] at hk
                · exact .inr hu
                · exact .inl ⟨_, hu⟩
              have ha : c.args = #[s, x] := arr2 h2
              obtain ⟨v', w', ρ', r1, r2⟩ := append_sound (P := P) (ty := ty) hS ht hi hz0 hz hby hku (H s (by simp [Op.operands, Call.operands, ha])) (H x (by simp [Op.operands, Call.operands, ha])) hv2 hfr
              refine ⟨v', w', ρ', .inl ?_, r2⟩
              simp [execOp, resolve, hc, invoke, builtin, arr2 h1, ha, r1]
    · split at hv <;> simp [evalE] at hv
    · rename_i hc
      split at hv <;> try (simp [evalE] at hv; done)
      rename_i pt it p n h1 h2
      split at hv <;> try (simp [evalE] at hv; done)
      rename_i e hp
      split at hv <;> try (simp [evalE] at hv; done)
      rename_i hce
      have ha : c.args = #[p, n] := arr2 h2
      have hfx : h'.next = h.next := by
        revert hv
        simp only [evalE]
        intro hv
        repeat' (split at hv)
        all_goals first
          | (cases hv; done)
          | (simp only [Option.some.injEq, Prod.mk.injEq] at hv; obtain ⟨_, rfl⟩ := hv; first | rfl | exact AH.next_put _ _ _)
      obtain ⟨v', w', r1, r2⟩ := unsafeStr_sound (P := P) (it := it) (w := w) hS ty hp hce p n (H p (by simp [Op.operands, Call.operands, ha])) (H n (by simp [Op.operands, Call.operands, ha])) hv
      refine ⟨v', w', ρ, .inl ?_, r2⟩
      simp [execOp, resolve, hc, invoke, builtin, arr2 h1, ha, r1]
    · split at hv <;> simp [evalE] at hv
    · split at hv <;> simp [evalE] at hv
  case binOp op t x y yt => simp only [cOp'] at hk2; rw [cBin_kind] at hk2; cases hk2
  case slice t x lo hi mx =>
    cases mx
    · simp only [cOp'] at hv
      repeat' (split at hv)
      all_goals (simp [evalE] at hv)
    · simp [cOp', evalE] at hv
  all_goals (try simp only [cOp'] at hv)
  all_goals (try (simp [evalE] at hv; done))
  all_goals (repeat' (split at hv))
  all_goals (simp [evalE] at hv)

end
end Go.Am
