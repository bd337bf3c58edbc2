import Derived.Test.YtikphefllmemjaaGreatDoorAm8
/-
The engine, part 9: the theorem on quiet operations; on those that lay a block.
-/
namespace Go.Am
open Go
set_option linter.unusedVariables false
set_option linter.unusedSimpArgs false

section
variable {P : Program} {ρ : Ren} {g : VH} {w : World} {ev : Operand → Value} {ea : Operand → Value}

theorem arr1 {α : Type} {a : Array α} {x : α} (h : a.toList = [x]) : a = #[x] := by apply Array.ext'; simpa using h
theorem arr2 {α : Type} {a : Array α} {x y : α} (h : a.toList = [x, y]) : a = #[x, y] := by apply Array.ext'; simpa using h

theorem q_call (hS : Sim ρ g w) (c : Call) (o : Oper) (ho : o.op = .call c) (H : ∀ x ∈ c.operands.toList, Rv ρ (ev x) (ea x)) {v : Value}
    (hv : evalQ P ev g (cCall P c) = some v) : ∃ v', (execOp ea o).run P w = .ok (.value v') w ∧ Rv ρ v v' := by
  have hb : ∀ (b : Builtin), c.callee = .builtin b → ∀ {v' : Value} {s : Sem Value}, (∀ cs, builtin b c.argTypes o.type cs (c.args.map ea) = (do pure (.value (← s)))) → s.run P w = .ok v' w →
      (execOp ea o).run P w = .ok (.value v') w := by
    intro b hc v' s hs hr
    simp only [execOp, ho, resolve, hc, Sem.run_bind, Sem.run_pure, Result.andThen_ok, invoke]
    rw [hs _]
    simp [hr]
  have H' : ∀ x ∈ c.args.toList, Rv ρ (ev x) (ea x) := fun x hx => H x (by simp only [Call.operands, Array.toList_append, List.mem_append]; exact .inr hx)
  unfold cCall at hv
  split at hv <;> try (simp [evalQ] at hv; done)
  · rename_i hc
    split at hv
    · rename_i t x h1 h2
      obtain ⟨v', h3, h4⟩ := q_len (P := P) hS t o.type x (H' x (by rw [h2]; simp)) hv
      refine ⟨v', hb .len hc (s := Builtin.len_ c.argTypes o.type (c.args.map ea)) (fun _ => rfl) ?_, h4⟩
      rw [arr1 h1, arr1 h2]; simpa using h3
    · simp [evalQ] at hv
  · rename_i hc
    repeat' (split at hv)
    all_goals (simp [evalQ] at hv)
  · rename_i hc
    split at hv <;> try (simp [evalQ] at hv; done)
    rename_i x h2
    have hx := H' x (by rw [h2]; simp)
    simp only [evalQ] at hv
    generalize hvx : ev x = vx at *
    generalize hux : ea x = ux at *
    have harg : c.args.map ea = #[ux] := by rw [arr1 h2]; simp [hux]
    cases hx <;> (try simp only at hv) <;> try (cases hv; done)
    · cases hv
      refine ⟨.pointer none, hb .unsafeSliceData hc (s := Builtin.unsafeSliceData_ c.argTypes o.type (c.args.map ea)) (fun _ => rfl) ?_, .ptrNil⟩
      rw [harg]
      exact Lib.run_unsafeSliceData_nil _ _ _ _ _
    · split at hv
      · cases hv
      · rename_i hc0
        cases hv
        refine ⟨.pointer (some ⟨_, _, none⟩), hb .unsafeSliceData hc (s := Builtin.unsafeSliceData_ c.argTypes o.type (c.args.map ea)) (fun _ => rfl) ?_, .ptr (by assumption)⟩
        rw [harg]
        exact Lib.run_unsafeSliceData_row _ _ _ _ _ _ (by omega)
  · rename_i hc
    repeat' (split at hv)
    all_goals (simp [evalQ] at hv)
  · rename_i hc
    split at hv <;> try (simp [evalQ] at hv; done)
    rename_i x y h2
    have hx := H' x (by rw [h2]; simp)
    have hy := H' y (by rw [h2]; simp)
    simp only [evalQ] at hv
    have h5 : ∃ k k' a b, ev x = .int k a ∧ ev y = .int k' b := by
      revert hv; generalize ev x = vx; generalize ev y = vy; intro hv
      cases vx <;> (try simp only at hv) <;> try (cases hv; done)
      cases vy <;> (try simp only at hv) <;> try (cases hv; done)
      exact ⟨_, _, _, _, rfl, rfl⟩
    obtain ⟨k, k', a, b, e1, e2⟩ := h5
    rw [e1, e2] at hv
    rw [e1] at hx
    rw [e2] at hy
    simp only [Option.some.injEq] at hv
    subst hv
    refine ⟨.int k (if b < a then b else a), hb .min hc (s := Builtin.min_ c.argTypes o.type (c.args.map ea)) (fun _ => rfl) ?_, by simp; exact .int _ _⟩
    rw [arr2 h2]
    simp [Builtin.min_, hx.int_inv, hy.int_inv, Builtin.min2]
  · rename_i hc
    split at hv <;> try (simp [evalQ] at hv; done)
    rename_i x y h2
    have hx := H' x (by rw [h2]; simp)
    have hy := H' y (by rw [h2]; simp)
    simp only [evalQ] at hv
    have h5 : ∃ k k' a b, ev x = .int k a ∧ ev y = .int k' b := by
      revert hv; generalize ev x = vx; generalize ev y = vy; intro hv
      cases vx <;> (try simp only at hv) <;> try (cases hv; done)
      cases vy <;> (try simp only at hv) <;> try (cases hv; done)
      exact ⟨_, _, _, _, rfl, rfl⟩
    obtain ⟨k, k', a, b, e1, e2⟩ := h5
    rw [e1, e2] at hv
    rw [e1] at hx
    rw [e2] at hy
    simp only [Option.some.injEq] at hv
    subst hv
    refine ⟨.int k (if b > a then b else a), hb .max hc (s := Builtin.max_ c.argTypes o.type (c.args.map ea)) (fun _ => rfl) ?_, by simp; exact .int _ _⟩
    rw [arr2 h2]
    simp [Builtin.max_, hx.int_inv, hy.int_inv, Builtin.max2]

theorem Rvs.map {l : List Operand} (H : ∀ x ∈ l, Rv ρ (ev x) (ea x)) : Rvs ρ (l.map ev) (l.map ea) := by
  induction l with
  | nil => exact Rvs.nil
  | cons x l ih => exact Rvs.cons (H x (by simp)) (ih fun y hy => H y (by simp [hy]))

theorem cBin_kind (op : BinOp) (t : TypeId) (x y : Operand) : (cBin P op t x y).kind = 0 := by
  unfold cBin
  split <;> try rfl
  split <;> try rfl
  split <;> try rfl
  all_goals (try (split <;> try rfl))
  all_goals (try (split <;> try rfl))

set_option maxHeartbeats 2000000 in
/-- THE THEOREM ON QUIET OPERATIONS -/
theorem quiet_sound (hS : Sim ρ g w) (o : Oper) (H : ∀ x ∈ o.op.operands.toList, Rv ρ (ev x) (ea x)) (hk : (cOp P o.op).kind = 0) {v : Value}
    (hv : evalQ P ev g (cOp P o.op) = some v) : ∃ v', (execOp ea o).run P w = .ok (.value v') w ∧ Rv ρ v v' := by
  unfold cOp at hv hk
  split at hv
  case isFalse => simp [evalQ] at hv
  rename_i hok
  rw [if_pos hok] at hk
  have lift : ∀ {s : Sem Value} {v : Value}, (∃ v', s.run P w = .ok v' w ∧ Rv ρ v v') → execOp ea o = (do pure (.value (← s))) → ∃ v', (execOp ea o).run P w = .ok (.value v') w ∧ Rv ρ v v' := by
    rintro s v ⟨v', h1, h2⟩ he
    exact ⟨v', by rw [he]; simp [h1], h2⟩
  obtain ⟨dst, op, ty, pos, after, guard⟩ := o
  simp only at *
  cases op <;> (try (simp [cOp', evalQ] at hv; done))
  case move x => simp only [cOp', evalQ] at hv; cases hv; exact ⟨ea x, rfl, H x (by simp [Op.operands])⟩
  case assign x => simp only [cOp', evalQ] at hv; cases hv; exact ⟨ea x, rfl, H x (by simp [Op.operands])⟩
  case pick c a b =>
    simp only [cOp', evalQ] at hv
    have hc := H c (by simp [Op.operands])
    have h1 : ∃ t, ev c = .bool t := by
      revert hv; generalize ev c = vc; intro hv
      cases vc <;> (try simp only at hv) <;> try (cases hv; done)
      exact ⟨_, rfl⟩
    obtain ⟨t, e⟩ := h1
    rw [e] at hv hc
    cases hv
    refine ⟨if t then ea a else ea b, ?_, ?_⟩
    · simp [execOp, hc.bool_inv, asBool]
    · cases t
      · exact H b (by simp [Op.operands])
      · exact H a (by simp [Op.operands])
  case alloc t => simp only [cOp'] at hv; split at hv <;> simp [evalQ] at hv
  case build t parts =>
    refine lift (q_build (P := P) t parts (fun p hp => H p.2 ?_) hv) rfl
    simp only [Op.operands]
    simp only [List.toList_toArray, List.mem_map]
    exact ⟨p, hp, rfl⟩
  case buildSlice t n parts =>
    simp only [cOp'] at hv
    split at hv <;> try (simp [evalQ] at hv; done)
    split at hv <;> try (simp [evalQ] at hv; done)
    split at hv <;> try (simp [evalQ] at hv; done)
    split at hv <;> simp [evalQ] at hv
  case load t x => exact lift (q_load (P := P) hS t x (H x (by simp [Op.operands])) hv) rfl
  case store t a x => simp only [cOp'] at hv; split at hv <;> simp [evalQ] at hv
  case nilCheck x =>
    simp only [cOp', evalQ] at hv
    have hx := H x (by simp [Op.operands])
    have hv2 : v = ev x ∧ ev x ≠ .pointer none ∧ ev x ≠ .nilIface ∧ ev x ≠ .nilFunc ∧ ∀ m a c, ev x ≠ .func (.method m) a c := by
      split at hv <;> first | (cases hv; done) | (rename_i h1 h2 h3 h4; cases hv; exact ⟨rfl, h1, h2, h3, h4⟩)
    obtain ⟨rfl, h1, h2, h3, h4⟩ := hv2
    refine ⟨ea x, ?_, hx⟩
    simp only [execOp]
    generalize ev x = vx at *
    generalize ea x = ux at *
    cases hx <;> first | rfl | (exact absurd rfl h1) | (exact absurd rfl h2) | (exact absurd rfl h3) | skip
    rename_i f _ _ _ _ _ _ _ _
    cases f <;> first | rfl | (exact absurd rfl (h4 _ _ _))
  case binOp op t x y yt => exact lift (q_bin (P := P) op t x y (H x (by simp [Op.operands])) (H y (by simp [Op.operands])) hv) rfl
  case unOp op t x =>
    simp only [cOp', evalQ] at hv
    have hx := H x (by simp [Op.operands])
    refine lift (s := Op.unary op (ea x)) ?_ rfl
    generalize ev x = vx at *
    generalize ea x = ux at *
    cases op <;> cases hx <;> (try simp only at hv) <;> (try (cases hv; done)) <;> cases hv
    all_goals first
      | exact ⟨_, rfl, .bool _⟩
      | exact ⟨_, rfl, .int _ _⟩
  case convert s d x => exact lift (q_convert (P := P) hS s d x (H x (by simp [Op.operands])) hk hv) rfl
  case makeInterface t x =>
    simp only [cOp'] at hv
    cases hd : P.underlying t with
    | none => simp [hd, evalQ] at hv
    | some d =>
      have hx := H x (by simp [Op.operands])
      rw [hd] at hv
      split at hv <;> try (simp [evalQ] at hv; done)
      rename_i hni heq
      cases heq
      simp only [evalQ] at hv
      cases hv
      refine lift (s := Instr.makeInterface t (ea x)) ⟨.iface t (ea x), ?_, .iface t hx⟩ rfl
      simp only [Instr.makeInterface, Sem.run_bind, run_und hd, Result.andThen_ok]
      rename_i d'
      cases d' <;> first | rfl | exact absurd rfl (hni _)
  case makeFunc fn first cap =>
    simp only [cOp', evalQ] at hv
    cases hv
    have h1 := Rvs.map (ρ := ρ) (ev := ev) (ea := ea) (l := first.toList) (fun x hx => H x (by simp [Op.operands, Array.mem_toList_iff.1 hx]))
    have h2 := Rvs.map (ρ := ρ) (ev := ev) (ea := ea) (l := cap.toList) (fun x hx => H x (by simp [Op.operands, Array.mem_toList_iff.1 hx]))
    refine lift (s := Instr.makeFunc fn (first.map ea) (cap.map ea)) ⟨.func fn ⟨first.toList.map ea⟩ ⟨cap.toList.map ea⟩, ?_, .func fn h1.1 h2.1 h1.2 h2.2⟩ rfl
    simp only [Instr.makeFunc, Sem.run_pure]
    congr 2 <;> (apply Array.ext'; simp)
  case makeMap t r => cases r <;> simp [cOp', evalQ] at hv
  case makeSlice t l c =>
    simp only [cOp'] at hv
    split at hv <;> try (simp [evalQ] at hv; done)
    split at hv <;> try (simp [evalQ] at hv; done)
    split at hv <;> simp [evalQ] at hv
  case slice t x lo hi mx =>
    cases mx with
    | some m => simp [cOp', evalQ] at hv
    | none =>
      exact lift (q_slice (P := P) hS t x lo hi (H x (by simp [Op.operands])) (fun y hy => H y (by simp only [Op.operands, Array.toList_append, List.mem_append]; exact .inl (.inl (.inr hy)))) (fun y hy => H y (by simp only [Op.operands, Array.toList_append, List.mem_append]; exact .inl (.inr hy))) hv) rfl
  case fieldAddr t x f => exact lift (q_fieldAddr (P := P) t x f (H x (by simp [Op.operands])) hv) rfl
  case field t x f => exact lift (q_field (P := P) t x f (H x (by simp [Op.operands])) hv) rfl
  case indexAddr t x i => exact lift (q_indexAddr (P := P) t x i (H x (by simp [Op.operands])) (H i (by simp [Op.operands])) hv) rfl
  case index t x i => exact lift (q_index (P := P) t x i (H x (by simp [Op.operands])) (H i (by simp [Op.operands])) hv) rfl
  case lookup t x i ok => exact lift (q_lookup (P := P) hS t x i ok (H x (by simp [Op.operands])) (H i (by simp [Op.operands])) hv) rfl
  case mapUpdate t m k x =>
    simp only [cOp'] at hv
    split at hv <;> try (simp [evalQ] at hv; done)
    split at hv <;> simp [evalQ] at hv
  case extract x i =>
    simp only [cOp', evalQ] at hv
    have hx := H x (by simp [Op.operands])
    refine lift (s := Instr.extract (ea x) i) ?_ rfl
    generalize ev x = vx at *
    generalize ea x = ux at *
    cases hx <;> (try simp only at hv) <;> (try (cases hv; done))
    rename_i a a' h1 h2
    obtain ⟨v', h3, h4⟩ := Rvs.get (ρ := ρ) (a := a) (a' := a') ⟨h1, h2⟩ hv
    exact ⟨v', by simp [Instr.extract, h3], h4⟩
  case call c => exact q_call (P := P) hS c _ rfl (fun x hx => H x (by simpa [Op.operands] using hx)) hv
  case defer c => simp only [cOp'] at hv; split at hv <;> simp [evalQ] at hv

end
end Go.Am
