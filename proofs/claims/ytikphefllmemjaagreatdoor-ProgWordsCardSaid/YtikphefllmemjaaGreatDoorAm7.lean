import Derived.Test.YtikphefllmemjaaGreatDoorAm6
import Derived.Laws.BytesString
/-
The engine, part 7: the quiet operations, all.
-/
namespace Go.Am
open Go
set_option linter.unusedVariables false
set_option linter.unusedSimpArgs false

section
variable {P : Program} {ρ : Ren} {g : VH} {w : World} {ev : Operand → Value} {ea : Operand → Value}

theorem bytesOf_ns : ∀ {l : List Value} {bs : List UInt8}, bytesOf l = some bs → ∃ ns : List Int, l = ns.map (Value.int .u8) ∧ bs = ns.map (fun n => UInt8.ofNat n.toNat)
  | [], bs, h => by simp [bytesOf] at h; subst h; exact ⟨[], rfl, rfl⟩
  | v :: l, bs, h => by
    unfold bytesOf at h
    split at h
    · rename_i e; cases e
    · rename_i n rest e
      cases e
      simp only [Option.map_eq_some_iff] at h
      obtain ⟨bs', h1, rfl⟩ := h
      obtain ⟨ns, rfl, rfl⟩ := bytesOf_ns h1
      exact ⟨n :: ns, rfl, rfl⟩
    · cases h

theorem foldl_push (ns : List Int) : ∀ (acc : ByteArray), ns.foldl (fun r n => r.push (UInt8.ofNat n.toNat)) acc = ⟨⟨acc.data.toList ++ ns.map (fun n => UInt8.ofNat n.toNat)⟩⟩ := by
  induction ns with
  | nil => intro acc; cases acc with | mk a => cases a; simp
  | cons n ns ih => intro acc; simp only [List.foldl_cons, ih, List.map_cons]; cases acc with | mk a => cases a; simp [ByteArray.push]

theorem Rvs.ints {k : IntKind} {ns : List Int} {l' : List Value} (h : Rvs ρ (ns.map (Value.int k)) l') : l' = ns.map (Value.int k) := by
  induction ns generalizing l' with
  | nil => exact h.nil_inv
  | cons n ns ih =>
    obtain ⟨v', t, rfl, h1, h2⟩ := h.cons_inv
    rw [ih h2, h1.int_inv]; rfl

theorem q_bytes {x x' : Value} (hS : Sim ρ g w) (hx : Rv ρ x x') {v : Value}
    (hv : (match (generalizing := false) x with
      | .slice none _ _ => some (.string .empty)
      | .slice (some ⟨b, o, none⟩) n _ => ((cellsIn g b o n).bind bytesOf).map fun l => .string ⟨⟨l⟩⟩
      | _ => none : Option Value) = some v) :
    ∃ v', (Conv.bytesToString x').run P w = .ok v' w ∧ Rv ρ v v' := by
  cases hx <;> (try simp only at hv) <;> try (cases hv; done)
  case sliceNil l c => cases hv; exact ⟨_, rfl, .string _⟩
  case slice b b' x o l c hb =>
    simp only [Option.map_eq_some_iff, Option.bind_eq_some_iff] at hv
    obtain ⟨bs, ⟨cs, h1, h2⟩, rfl⟩ := hv
    obtain ⟨vs', h3, h4, h5⟩ := hS.row hb h1
    obtain ⟨ns, rfl, rfl⟩ := bytesOf_ns h2
    have e := h3.ints
    subst e
    refine ⟨_, run_bytesToString w _ _ _ ns (run_row h4 h5), ?_⟩
    rw [foldl_push]
    exact .string _

theorem sliceB_inv {y d : Nat} {v v' : Option Value} (h : (v = none ∧ v' = none) ∨ ∃ a a', v = some a ∧ v' = some a' ∧ Rv ρ a a') {r : Nat} (hv : sliceB d y v = some r) :
    (v' = none ∧ r = d) ∨ ∃ k i, v' = some (.int k i) ∧ 0 ≤ i ∧ i ≤ y ∧ r = i.toNat := by
  rcases h with ⟨rfl, rfl⟩ | ⟨a, a', rfl, rfl, ha⟩
  · simp [sliceB] at hv; exact .inl ⟨rfl, hv.symm⟩
  · right
    unfold sliceB at hv
    split at hv <;> try (rename_i e; cases e; done)
    · rename_i e; cases e
      split at hv
      · rename_i hle; cases hv
        exact ⟨_, _, by rw [ha.int_inv], hle.1, hle.2, rfl⟩
      · cases hv
    · cases hv

theorem sliceBounds_run {isS : Bool} {len cap h l : Nat} {lo lo' hi hi' : Option Value} (h1 : (lo = none ∧ lo' = none) ∨ ∃ a a', lo = some a ∧ lo' = some a' ∧ Rv ρ a a')
    (h2 : (hi = none ∧ hi' = none) ∨ ∃ a a', hi = some a ∧ hi' = some a' ∧ Rv ρ a a') {cap' : Nat} (hcap : cap ≤ cap') (hh : sliceB len cap hi = some h) (hl : sliceB 0 h lo = some l) :
    (Instr.sliceBounds isS len cap' lo' hi' none).run P w = .ok (l, h, cap') w := by
  rcases sliceB_inv h2 hh with ⟨rfl, rfl⟩ | ⟨k, i, rfl, i0, i1, rfl⟩ <;> rcases sliceB_inv h1 hl with ⟨rfl, rfl⟩ | ⟨k2, i2, rfl, j0, j1, rfl⟩
  · simp [Instr.sliceBounds]
  · simp [Instr.sliceBounds, Instr.sliceBound, asIntOf, j0, j1]
  · have : i ≤ (cap' : Int) := by omega
    simp [Instr.sliceBounds, Instr.sliceBound, asIntOf, i0, this]
  · have : i ≤ (cap' : Int) := by omega
    have h3 : i2 ≤ ((i.toNat : Nat) : Int) := j1
    have h4 : i2 ≤ i := by omega
    simp [Instr.sliceBounds, Instr.sliceBound, asIntOf, i0, this, j0, h4]
    try omega

theorem opt_rel {lo : Option Operand} (H : ∀ x ∈ lo.toArray.toList, Rv ρ (ev x) (ea x)) :
    (lo.map ev = none ∧ lo.map ea = none) ∨ ∃ a a', lo.map ev = some a ∧ lo.map ea = some a' ∧ Rv ρ a a' := by
  cases lo with
  | none => exact .inl ⟨rfl, rfl⟩
  | some x => exact .inr ⟨_, _, rfl, rfl, H x (by simp)⟩

theorem sliceB_le {d y : Nat} {v : Option Value} {r : Nat} (h : sliceB d y v = some r) (hd : d ≤ y) : r ≤ y := by
  unfold sliceB at h
  split at h
  · cases h; exact hd
  · split at h
    · cases h; omega
    · cases h
  · cases h

theorem q_slice (hS : Sim ρ g w) (t : TypeId) (x : Operand) (lo hi : Option Operand) (hx : Rv ρ (ev x) (ea x))
    (hlo : ∀ x ∈ lo.toArray.toList, Rv ρ (ev x) (ea x)) (hhi : ∀ x ∈ hi.toArray.toList, Rv ρ (ev x) (ea x)) {v : Value}
    (hv : evalQ P ev g (cOp' P (.slice t x lo hi none)) = some v) :
    ∃ v', (Instr.sliceAt t (ea x) (lo.map ea) (hi.map ea) none).run P w = .ok v' w ∧ Rv ρ v v' := by
  have r1 := opt_rel (ρ := ρ) hlo
  have r2 := opt_rel (ρ := ρ) hhi
  simp only [cOp'] at hv
  cases hd : P.underlying t with
  | none => simp [hd, evalQ] at hv
  | some d =>
    cases d <;> simp only [hd] at hv <;> try (simp [evalQ] at hv; done)
    case string =>
      simp only [evalQ] at hv
      generalize ev x = vx at *
      generalize ea x = ux at *
      cases hx <;> (try simp only at hv) <;> try (cases hv; done)
      rename_i s
      cases hh : sliceB s.size s.size (hi.map ev) with
      | none => simp [hh] at hv
      | some h =>
        cases hl : sliceB 0 h (lo.map ev) with
        | none => simp [hh, hl] at hv
        | some l =>
          simp [hh, hl] at hv
          subst hv
          refine ⟨_, ?_, .string _⟩
          simp only [Instr.sliceAt, Sem.run_bind, run_und hd, Result.andThen_ok, Instr.slice, Option.isSome_none, Bool.false_eq_true, if_false, Sem.run_pure,
            sliceBounds_run (P := P) (w := w) (isS := false) r1 r2 (Nat.le_refl _) hh hl]
    case slice e =>
      cases hs : cSize P e with
      | none => simp [hs, evalQ] at hv
      | some sz =>
        simp only [hs, evalQ] at hv
        generalize ev x = vx at *
        generalize ea x = ux at *
        cases hx <;> (try simp only at hv) <;> try (cases hv; done)
        case sliceNil len cap =>
          cases hh : sliceB len cap (hi.map ev) with
          | none => simp [hh] at hv
          | some h =>
            cases hl : sliceB 0 h (lo.map ev) with
            | none => simp [hh, hl] at hv
            | some l =>
              simp [hh, hl] at hv
              obtain ⟨rfl, rfl⟩ := hv
              refine ⟨_, ?_, .sliceNil _ _⟩
              simp only [Instr.sliceAt, Sem.run_bind, run_und hd, Result.andThen_ok, Instr.slice, Sem.run_pure, run_size hs,
                sliceBounds_run (P := P) (w := w) (isS := true) r1 r2 (Nat.le_refl _) hh hl]
              simp
        case slice b b' xx o len cap hb =>
          cases hh : sliceB len cap (hi.map ev) with
          | none => simp [hh] at hv
          | some h =>
            cases hl : sliceB 0 h (lo.map ev) with
            | none => simp [hh, hl] at hv
            | some l =>
              simp [hh, hl] at hv
              have hrun := sliceBounds_run (P := P) (w := w) (isS := true) (cap' := cap + xx) r1 r2 (by omega) hh hl
              split at hv
              · rename_i hl0
                subst hl0
                cases hv
                refine ⟨_, ?_, .slice hb⟩
                simp only [Instr.sliceAt, Sem.run_bind, run_und hd, Result.andThen_ok, Instr.slice, Sem.run_pure, run_size hs, hrun]
                by_cases hc : cap + xx = 0 <;> simp [hc, add_off]
              · rename_i hl0
                split at hv
                · rename_i hcl
                  cases hv
                  refine ⟨.slice (some ⟨b', o + l * sz, none⟩) (h - l) (cap - l + xx), ?_, .slice hb⟩
                  simp only [Instr.sliceAt, Sem.run_bind, run_und hd, Result.andThen_ok, Instr.slice, Sem.run_pure, run_size hs, hrun]
                  rw [if_neg (by omega)]
                  simp only [Option.map_some, add_off]
                  rw [show cap + xx - l = cap - l + xx by omega]
                · cases hv
    case array n e =>
      cases hs : cSize P e with
      | none => simp [hs, evalQ] at hv
      | some sz =>
        simp only [hs, evalQ] at hv
        generalize ev x = vx at *
        generalize ea x = ux at *
        cases hx <;> (try simp only at hv) <;> try (cases hv; done)
        rename_i b b' xx o hb
        cases hh : sliceB n n (hi.map ev) with
        | none => simp [hh] at hv
        | some h =>
          cases hl : sliceB 0 h (lo.map ev) with
          | none => simp [hh, hl] at hv
          | some l =>
            simp [hh, hl] at hv
            cases hg : g b with
            | none => simp [hg] at hv
            | some ob =>
              cases ob with
              | map es cl => simp [hg] at hv
              | cells cs e' sp fz =>
                cases sp with
                | some s => simp [hg] at hv
                | none =>
                  simp [hg] at hv
                  subst hv
                  obtain ⟨r', x', o', h1, h2, h3⟩ := hS.blk b _ hg
                  rw [hb] at h1; cases h1
                  have hx0 : xx = 0 := by cases h3 with | cells _ h5 _ => exact h5.2
                  subst hx0
                  refine ⟨.slice (some ⟨b', if n = l then o else o + l * sz, none⟩) (h - l) (n - l + 0), ?_, .slice hb⟩
                  simp only [Instr.sliceAt, Sem.run_bind, run_und hd, Result.andThen_ok, Instr.sureAddr, Sem.run_pure, run_size hs,
                    sliceBounds_run (P := P) (w := w) (isS := false) r1 r2 (Nat.le_refl _) hh hl]
                  split <;> simp [add_off]
end
end Go.Am
