import Derived.Test.YtikphefllmemjaaGreatDoorAm3
import Derived.Laws.Cells
import Derived.Laws.World
/-
The engine, part 4: the operations that leave the world as it is do in every world that is related what the abstract machine says.
-/
namespace Go.Am
open Go
set_option linter.unusedVariables false
set_option linter.unusedSimpArgs false

section
variable {P : Program} {w : World}
theorem run_und {t : TypeId} {d : TypeDesc} (h : P.underlying t = some d) : (underlying t).run P w = .ok d w := run_underlying h w
theorem run_info {t : TypeId} {i : TypeInfo} (h : P.info? t = some i) : (typeInfo t).run P w = .ok i w := by simp [typeInfo, h]
theorem run_size {t : TypeId} {n : Nat} (h : cSize P t = some n) : (sizeOf t).run P w = .ok n w := by
  unfold cSize at h
  cases hi : P.info? t with
  | none => simp [hi] at h
  | some i => simp [hi] at h; subst h; simp [sizeOf, run_info hi]
theorem run_zero {t : TypeId} {z : Value} (h : cZero P t = some z) : (zeroValue t).run P w = .ok z w := by
  unfold cZero at h
  cases hi : P.info? t with
  | none => simp [hi] at h
  | some i =>
    simp only [hi] at h
    cases hz : i.zero with
    | none => simp [hz] at h
    | some z' =>
      simp only [hz] at h
      split at h
      · cases h; simp [zeroValue, run_info hi, hz]
      · cases h
theorem cZero_closed {t : TypeId} {z : Value} (h : cZero P t = some z) : closed z = true ∧ (vcells z).all closed = true := by
  unfold cZero at h
  cases hi : P.info? t with
  | none => simp [hi] at h
  | some i =>
    simp only [hi] at h
    cases hz : i.zero with
    | none => simp [hz] at h
    | some z' =>
      simp only [hz] at h
      split at h
      · rename_i hc; cases h; simpa using hc
      · cases h
theorem all_closed_refl {ρ : Ren} {l : List Value} (h : l.all closed = true) : Rvs ρ l l :=
  ⟨rfl, fun i v v' h1 h2 => by rw [h1] at h2; cases h2; exact closed_refl (List.all_eq_true.1 h v (List.mem_of_getElem? h1))⟩
theorem run_isAgg {t : TypeId} {r : Option Nat} (h : cAgg P t = some r) :
    ∃ d, P.underlying t = some d ∧ (isAgg t).run P w = .ok r.isSome w ∧ (∀ n, r = some n → cSize P t = some n) := by
  unfold cAgg at h
  cases hd : P.underlying t with
  | none => simp [hd] at h
  | some d =>
    rw [hd] at h
    refine ⟨d, rfl, ?_, ?_⟩
    · cases d <;> simp only [Option.map_eq_some_iff, Option.some.injEq] at h <;> simp only [isAgg, Sem.run_bind, run_und hd, Result.andThen_ok, Sem.run_pure]
      all_goals first
        | (obtain ⟨n, _, rfl⟩ := h; rfl)
        | (subst h; rfl)
    · intro n hn
      cases d <;> simp only [Option.map_eq_some_iff, Option.some.injEq] at h
      all_goals first
        | (obtain ⟨m, hm, rfl⟩ := h; cases hn; exact hm)
        | (subst h; cases hn)

theorem ev_ok {ρ : Ren} {tm : List Value} {a : Act} (hT : Rvs ρ tm a.tmps.toList) {x : Operand} (hx : okO x = true) : Rv ρ (evT tm x) (a.eval x) := by
  cases x with
  | tmp t =>
    have h := hT.getD t
    simp only [evT, Act.eval]
    have e : a.tmps.getD t undef = a.tmps.toList.getD t (.tuple #[]) := by
      rw [List.getD_eq_getElem?_getD]; simp [undef]
    rw [e]; exact h
  | const v => exact closed_refl hx
  | global g => simp [okO] at hx
  | func f => exact .func _ (a := []) (a' := []) (c := []) (c' := []) rfl rfl (fun i v v' h => by simp at h) (fun i v v' h => by simp at h)
end

section
variable {ρ : Ren} {g : VH} {w : World}
theorem Sim.cell (hS : Sim ρ g w) {b r x o : Nat} {cs : List Value} {e : TypeId} {sp : Option Nat} {fz : Nat} {v : Value} (hb : ρ b = some (r, x))
    (hg : g b = some (.cells cs e sp fz)) (hv : cs[o]? = some v) : ∃ v', w.cell? ⟨r, o, none⟩ = some v' ∧ Rv ρ v v' := by
  obtain ⟨r', x', o', h1, h2, h3⟩ := hS.blk b _ hg
  rw [hb] at h1; cases h1
  cases h3 with
  | cells h4 h5 h6 =>
    obtain ⟨v', h7, h8⟩ := h4.get hv
    refine ⟨v', ?_, h8⟩
    have hlt := (List.getElem?_eq_some_iff.1 h7).1
    simp only [World.cell?, h2]
    simp [List.getElem?_append_left hlt, h7]
theorem Sim.row (hS : Sim ρ g w) {b r x o n : Nat} {vs : List Value} (hb : ρ b = some (r, x)) (hc : cellsIn g b o n = some vs) :
    ∃ vs', Rvs ρ vs vs' ∧ vs'.length = n ∧ ∀ j v, vs'[j]? = some v → w.cell? ⟨r, o + j, none⟩ = some v := by
  unfold cellsIn at hc
  cases hg : g b with
  | none => simp [hg] at hc
  | some ob =>
    cases ob with
    | map es cl => simp [hg] at hc
    | cells cs e sp fz =>
      simp only [hg] at hc
      split at hc
      · rename_i hle
        cases hc
        obtain ⟨r', x', o', h1, h2, h3⟩ := hS.blk b _ hg
        rw [hb] at h1; cases h1
        cases h3 with
        | @cells _ cs' rest _ _ _ lo hi h4 h5 h6 =>
          refine ⟨(cs'.drop o).take n, (h4.drop o).take n, ?_, ?_⟩
          · have := h4.1; simp; omega
          · intro j v hj
            have hj' : j < n := by have := (List.getElem?_eq_some_iff.1 hj).1; simp at this; omega
            rw [List.getElem?_take, if_pos hj', List.getElem?_drop] at hj
            have hlt := (List.getElem?_eq_some_iff.1 hj).1
            simp only [World.cell?, h2]
            simp [List.getElem?_append_left hlt, hj]
      · cases hc
theorem add_off (r o j : Nat) : (⟨r, o, none⟩ : Addr).add j = ⟨r, o + j, none⟩ := by unfold Addr.add; split <;> simp_all
theorem run_row {P : Program} {r o : Nat} {vs : List Value} {n : Nat} (hn : vs.length = n) (h : ∀ j v, vs[j]? = some v → w.cell? ⟨r, o + j, none⟩ = some v) :
    (loadCells ⟨r, o, none⟩ n).run P w = .ok ⟨vs⟩ w := by
  subst hn
  exact run_loadCells_list w _ vs (fun j v hj => by rw [add_off]; exact h j v hj)
end

section
variable {P : Program} {ρ : Ren} {g : VH} {w : World} {ev : Operand → Value} {ea : Operand → Value}

theorem q_load (hS : Sim ρ g w) (t : TypeId) (x : Operand) (hx : Rv ρ (ev x) (ea x)) {v : Value} (hv : evalQ P ev g (cOp' P (.load t x)) = some v) :
    ∃ v', (Instr.loadAt t (ea x)).run P w = .ok v' w ∧ Rv ρ v v' := by
  simp only [cOp'] at hv
  cases hc : cAgg P t with
  | none => simp [hc, evalQ] at hv
  | some r =>
    obtain ⟨d, hd, hA, hn⟩ := run_isAgg (w := w) hc
    cases r with
    | none =>
      simp only [hc, evalQ] at hv
      generalize ev x = vx at *
      generalize ea x = ux at *
      cases hx <;> simp only at hv <;> try (cases hv; done)
      rename_i b b' xx o hb
      cases hg : g b with
      | none => simp [hg] at hv
      | some ob =>
        cases ob with
        | map es cl => simp [hg] at hv
        | cells cs e sp fz =>
          simp only [hg] at hv
          obtain ⟨v', h1, h2⟩ := hS.cell hb hg hv
          exact ⟨v', by simp [Instr.loadAt, Instr.sureAddr, loadVar, hA, h1], h2⟩
    | some n =>
      simp only [hc, evalQ] at hv
      generalize ev x = vx at *
      generalize ea x = ux at *
      cases hx <;> simp only at hv <;> try (cases hv; done)
      rename_i b b' xx o hb
      cases hr : cellsIn g b o n with
      | none => simp [hr] at hv
      | some vs =>
        simp [hr] at hv
        subst hv
        obtain ⟨vs', h1, h2, h3⟩ := hS.row hb hr
        refine ⟨.agg ⟨vs'⟩, ?_, Rv.agg' h1⟩
        simp [Instr.loadAt, Instr.sureAddr, loadVar, hA, run_size (hn n rfl), run_row h2 h3]

inductive PR (ρ : Ren) (place : Nat → Option (Nat × Nat)) : List (Nat × Nat × Value) → List (Nat × Value) → Prop
  | nil : PR ρ place [] []
  | cons {o s i : Nat} {v u : Value} {a : List (Nat × Nat × Value)} {b : List (Nat × Value)} : place i = some (o, s) → Rv ρ v u → PR ρ place a b → PR ρ place ((o, s, v) :: a) ((i, u) :: b)

theorem fillL_ok {a : List (Nat × Nat × Value)} {b : List (Nat × Value)} {place : Nat → Option (Nat × Nat)} : ∀ {cs cs' r : List Value},
    Rvs ρ cs cs' → PR ρ place a b → fillL cs a = some r →
    ∃ r', Instr.fill place ⟨cs'⟩ b = some ⟨r'⟩ ∧ Rvs ρ r r' := by
  induction a generalizing b with
  | nil => intro cs cs' r h hF hf; cases hF; simp [fillL] at hf; subst hf; exact ⟨cs', rfl, h⟩
  | cons p a ih =>
    intro cs cs' r h hF hf
    cases hF with
    | @cons off size i v u _ b' hpl hvu hF =>
      simp only [fillL] at hf
      split at hf
      · cases hf
      · rename_i hc
        have hcl := hvu.cells
        have hlen : (vcells u).length = size := by rw [← hcl.1]; omega
        have hle : off + size ≤ cs'.length := by rw [← h.1]; omega
        obtain ⟨r', h1, h2⟩ := ih (b := b') (cs' := cs'.take off ++ vcells u ++ cs'.drop (off + size)) (((h.take off).append hcl).append (h.drop _)) hF hf
        refine ⟨r', ?_, h2⟩
        simp only [Instr.fill, hpl]
        have hsz : u.cells.size = size := by rw [← Array.length_toList, vcells_eq, hlen]
        rw [if_neg (by simp [hsz]; omega)]
        have key : ∀ (l : List Value) (k : Nat) (c : List Value), off + k + l.length ≤ c.length →
            ((l.zipIdx k).foldl (fun (cs : Array Value) (p : Value × Nat) => cs.setIfInBounds (off + p.2) p.1) ⟨c⟩).toList = c.take (off + k) ++ l ++ c.drop (off + k + l.length) := by
          intro l
          induction l with
          | nil => intro k c hk; simp
          | cons y l ih2 =>
            intro k c hk
            simp only [List.length_cons] at hk
            simp only [List.zipIdx_cons, List.foldl_cons]
            have e : (⟨c⟩ : Array Value).setIfInBounds (off + k) y = ⟨c.set (off + k) y⟩ := by simp
            rw [e, ih2 (k + 1) _ (by simp; omega)]
            simp only [List.length_cons]
            have e1 : off + (k + 1) = off + k + 1 := by omega
            rw [e1, List.take_set, List.take_succ_eq_append_getElem (by omega : off + k < c.length), List.drop_set, if_pos (by omega),
              show off + k + 1 + l.length = off + k + (l.length + 1) by omega]
            rw [List.set_append_right _ _ (by rw [List.length_take]; omega)]
            simp [show min (off + k) c.length = off + k by omega]
        have e := key (vcells u) 0 cs' (by omega)
        have e2 : (u.cells.zipIdx.foldl (fun (cs : Array Value) (p : Value × Nat) => cs.setIfInBounds (off + p.2) p.1) ⟨cs'⟩) = ⟨cs'.take off ++ vcells u ++ cs'.drop (off + size)⟩ := by
          apply Array.ext'
          rw [← Array.foldl_toList, Array.toList_zipIdx, vcells_eq]
          simpa [hlen] using e
        exact (congrArg (fun c => Instr.fill place c b') e2).trans h1
end

end Go.Am
