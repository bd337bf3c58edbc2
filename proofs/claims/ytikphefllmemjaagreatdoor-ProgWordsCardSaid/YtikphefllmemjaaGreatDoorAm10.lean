import Derived.Test.YtikphefllmemjaaGreatDoorAm9
import Derived.Deep.AppendSrc
import Derived.Laws.Append
/-
The engine, part 10: operations that lay a block; stores, appends, maps.
-/
namespace Go.Am
open Go
set_option linter.unusedVariables false
set_option linter.unusedSimpArgs false

def Ren.with (ρ : Ren) (b : Nat) (p : Nat × Nat) : Ren := fun c => if c = b then some p else ρ c
def VH.with (g : VH) (b : Nat) (o : Option VObj) : VH := fun c => if c = b then o else g c
theorem Ren.le_with {ρ : Ren} {b : Nat} {p : Nat × Nat} (h : ρ b = none) : Ren.le ρ (ρ.with b p) := fun c q hq => by
  unfold Ren.with; split
  · rename_i e; subst e; rw [h] at hq; cases hq
  · exact hq
theorem Ren.with_same {ρ : Ren} {b : Nat} {p : Nat × Nat} : ρ.with b p b = some p := by simp [Ren.with]

def setB (w : World) (r : Nat) (o : Obj) : World := { w with heap := w.heap.setIfInBounds r o }
theorem setB_same {w : World} {r : Nat} {o : Obj} (h : w.heap[r]? = some o) : setB w r o = w := by
  have hlt := (Array.getElem?_eq_some_iff.1 h).1
  have e : w.heap.setIfInBounds r o = w.heap := by
    apply Array.ext_getElem?
    intro i
    rw [Array.getElem?_setIfInBounds]
    split
    · rename_i hi; subst hi; simp [hlt, h]
      have := (Array.getElem?_eq_some_iff.1 h).2; exact this.symm
    · rfl
  unfold setB; rw [e]
theorem setB_heap {w : World} {r : Nat} {o : Obj} (h : r < w.heap.size) (i : Nat) : (setB w r o).heap[i]? = if i = r then some o else w.heap[i]? := by
  simp only [setB, Array.getElem?_setIfInBounds]
  by_cases hi : r = i
  · subst hi; simp [h]
  · rw [if_neg hi, if_neg (fun e => hi e.symm)]
theorem setCells_eq {r : Nat} {e : TypeId} {fr : Nat × Nat} : ∀ (vs : List Value) (o : Nat) (c : List Value) (w : World), w.heap[r]? = some (.cells ⟨c⟩ e fr) →
    w.setCells r o vs = setB w r (.cells ⟨storeL c o vs⟩ e fr)
  | [], o, c, w, h => by simp only [World.setCells, storeL]; exact (setB_same h).symm
  | v :: vs, o, c, w, h => by
    have hlt := (Array.getElem?_eq_some_iff.1 h).1
    have e1 : w.setCell ⟨r, o, none⟩ v = setB w r (.cells ⟨c.set o v⟩ e fr) := by
      unfold World.setCell setB
      congr 1
      apply Array.ext_getElem?
      intro i
      simp only [Array.getElem?_modify, Array.getElem?_setIfInBounds]
      by_cases hi : r = i
      · subst hi
        have hget := (Array.getElem?_eq_some_iff.1 h).2
        simp [hlt, hget]
      · simp [hi]
    simp only [World.setCells, storeL]
    rw [e1, setCells_eq (e := e) (fr := fr) vs (o + 1) (c.set o v) _ (by rw [setB_heap hlt]; simp)]
    unfold setB
    simp
theorem storeL_length : ∀ (vs cs : List Value) (o : Nat), (storeL cs o vs).length = cs.length
  | [], cs, o => rfl
  | v :: vs, cs, o => by simp only [storeL, storeL_length vs, List.length_set]
theorem storeL_append : ∀ (vs cs rest : List Value) (o : Nat), o + vs.length ≤ cs.length → storeL (cs ++ rest) o vs = storeL cs o vs ++ rest
  | [], cs, rest, o, h => rfl
  | v :: vs, cs, rest, o, h => by
    simp only [List.length_cons] at h
    simp only [storeL]
    rw [List.set_append_left _ _ (by omega), storeL_append vs _ _ _ (by simp; omega)]
theorem storeL_eq : ∀ (vs cs : List Value) (o : Nat), o + vs.length ≤ cs.length → storeL cs o vs = cs.take o ++ vs ++ cs.drop (o + vs.length)
  | [], cs, o, h => by simp [storeL]
  | v :: vs, cs, o, h => by
    simp only [List.length_cons] at h
    simp only [storeL]
    rw [storeL_eq vs _ _ (by simp; omega), List.take_set, List.take_succ_eq_append_getElem (by omega : o < cs.length), List.drop_set, if_pos (by omega)]
    rw [List.set_append_right _ _ (by rw [List.length_take]; omega)]
    simp [show min o cs.length = o by omega, show o + 1 + vs.length = o + (vs.length + 1) by omega]

section
variable {P : Program} {ρ : Ren} {g : VH} {w : World} {ev : Operand → Value} {ea : Operand → Value}

theorem storeL_rel {cs cs' vs vs' : List Value} (h : Rvs ρ cs cs') (o : Nat) (k : Rvs ρ vs vs') : Rvs ρ (storeL cs o vs) (storeL cs' o vs') := by
  induction vs generalizing vs' cs cs' o with
  | nil => rw [k.nil_inv]; exact h
  | cons v vs ih => obtain ⟨v', t, rfl, h1, h2⟩ := k.cons_inv; exact ih (h.set o h1) (o + 1) h2

theorem Sim.lt (hS : Sim ρ g w) {b r x : Nat} {o : VObj} (hb : ρ b = some (r, x)) (hg : g b = some o) : r < w.heap.size := by
  obtain ⟨r', x', o', h1, h2, _⟩ := hS.blk b o hg
  rw [hb] at h1; cases h1
  exact (Array.getElem?_eq_some_iff.1 h2).1

/-- one block more -/
theorem Sim.add (hS : Sim ρ g w) {b x : Nat} {o : VObj} {o' : Obj} {w' : World} (hN : ρ b = none) (hw : w'.heap = w.heap.push o') (hos : w'.os = w.os) (hout : w'.output = w.output)
    (hR : RObj (ρ.with b (w.heap.size, x)) x o o') :
    Sim (ρ.with b (w.heap.size, x)) (g.with b (some o)) w' ∧ Ext ρ g w (ρ.with b (w.heap.size, x)) (g.with b (some o)) w' := by
  have hle := Ren.le_with (p := (w.heap.size, x)) hN
  have hgb : g b = none := by
    cases h : g b with
    | none => rfl
    | some o => obtain ⟨r, y, _, h1, _, _⟩ := hS.blk b o h; rw [hN] at h1; cases h1
  have hold : ∀ r, r < w.heap.size → w'.heap[r]? = w.heap[r]? := fun r hr => by rw [hw, Array.getElem?_push, if_neg (by omega)]
  refine ⟨⟨fun b hb => hle _ _ (hS.fix b hb), fun c o2 hc => ?_, fun c d o1 o2 r y z hc hd h1 h2 => ?_⟩, ⟨hle, hos, hout, by rw [hw]; simp, fun r hr _ => hold r hr, fun c o2 r y hc h1 hr => ?_⟩⟩
  · unfold VH.with at hc
    split at hc
    · rename_i e; subst e; cases hc
      exact ⟨_, x, o', Ren.with_same, by rw [hw]; simp, hR⟩
    · obtain ⟨r, y, o3, h1, h2, h3⟩ := hS.blk c o2 hc
      exact ⟨r, y, o3, hle _ _ h1, by rw [hold r (Array.getElem?_eq_some_iff.1 h2).1]; exact h2, h3.mono hle⟩
  · unfold VH.with at hc hd
    unfold Ren.with at h1 h2
    split at hc <;> split at hd
    · simp_all
    · rename_i e1 e2
      rw [if_pos e1] at h1
      rw [if_neg e2] at h2
      cases h1
      have := hS.lt h2 hd
      omega
    · rename_i e1 e2
      rw [if_neg e1] at h1
      rw [if_pos e2] at h2
      cases h2
      have := hS.lt h1 hc
      omega
    · rename_i e1 e2
      rw [if_neg e1] at h1
      rw [if_neg e2] at h2
      exact hS.inj c d o1 o2 r y z hc hd h1 h2
  · unfold VH.with at hc
    unfold Ren.with at h1
    split at hc
    · rename_i e; rw [if_pos e] at h1; cases h1; omega
    · rename_i e; rw [if_neg e] at h1; exact ⟨c, o2, y, hc, h1⟩

/-- a block that turns -/
theorem Sim.turn (hS : Sim ρ g w) {b r x : Nat} {o0 o : VObj} {o' : Obj} (hb : ρ b = some (r, x)) (hg : g b = some o0) (hR : RObj ρ x o o') :
    Sim ρ (g.with b (some o)) (setB w r o') ∧ Ext ρ g w ρ (g.with b (some o)) (setB w r o') := by
  have hlt := hS.lt hb hg
  refine ⟨⟨hS.fix, fun c o2 hc => ?_, fun c d o1 o2 r2 y z hc hd h1 h2 => ?_⟩, ⟨Ren.le_refl _, rfl, rfl, by simp [setB], fun r2 hr hn => ?_, fun c o2 r2 y hc h1 hr => ?_⟩⟩
  · unfold VH.with at hc
    split at hc
    · rename_i e; subst e; cases hc; exact ⟨r, x, o', hb, by rw [setB_heap hlt]; simp, hR⟩
    · rename_i e
      obtain ⟨r2, y, o3, h1, h2, h3⟩ := hS.blk c o2 hc
      refine ⟨r2, y, o3, h1, ?_, h3⟩
      rw [setB_heap hlt, if_neg (fun h => by subst h; exact e (hS.inj c b _ _ _ y x hc hg h1 hb))]
      exact h2
  · have : ∀ {c o1}, g.with b (some o) c = some o1 → ∃ o3, g c = some o3 := by
      intro c o1 hc; unfold VH.with at hc; split at hc
      · rename_i e; subst e; exact ⟨_, hg⟩
      · exact ⟨_, hc⟩
    obtain ⟨_, hc'⟩ := this hc
    obtain ⟨_, hd'⟩ := this hd
    exact hS.inj c d _ _ r2 y z hc' hd' h1 h2
  · rw [setB_heap hlt, if_neg (fun h => by subst h; exact hn b o0 x hg hb)]
  · unfold VH.with at hc
    split at hc
    · rename_i e; subst e; exact ⟨_, _, _, hg, h1⟩
    · exact ⟨_, _, _, hc, h1⟩

theorem get_add_eq (h : AH) (o : VObj) : (h.add o).get = VH.with h.get h.next (some o) := by funext c; rw [AH.get_add]; rfl
theorem get_put_eq (h : AH) (b : Nat) (o : Option VObj) : (h.put b o).get = VH.with h.get b o := by funext c; rw [AH.get_put]; rfl

/-! ### operations that lay one block -/
theorem RObj.new {cs cs' : List Value} (h : Rvs ρ cs cs') (elem : TypeId) : RObj ρ 0 (.cells cs elem none 0) (.cells ⟨cs'⟩ elem (0, 0)) := by
  have := RObj.cells (ρ := ρ) (x := 0) (rest := []) (elem := elem) (spare := none) (fz := 0) (lo := 0) (hi := 0) h ⟨rfl, rfl⟩ (fun off _ _ h => by omega)
  simpa using this

theorem evalA_kind {io : IOp} {r : List Value × TypeId × (Nat → Value)} (h : evalA ev io = some r) : io.kind = 1 := by
  cases io <;> first | rfl | simp [evalA] at h
theorem cCall_kind (c : Call) : (cCall P c).kind = 0 ∨ (cCall P c).kind = 2 := by
  unfold cCall
  repeat' split
  all_goals first
    | exact .inl rfl
    | exact .inr rfl

set_option maxHeartbeats 1000000 in
theorem alloc_sound (o : Oper) (H : ∀ x ∈ o.op.operands.toList, Rv ρ (ev x) (ea x)) {cs : List Value} {elem : TypeId} {mk : Nat → Value}
    (hv : evalA ev (cOp P o.op) = some (cs, elem, mk)) :
    ∃ cs', Rvs ρ cs cs' ∧ ∃ v' : Value, (execOp ea o).run P w = .ok (.value v') (w.alloc (.cells ⟨cs'⟩ elem)) ∧ ∀ (ρ' : Ren) (b : Nat), ρ' b = some (w.heap.size, 0) → Rv ρ' (mk b) v' := by
  unfold cOp at hv
  split at hv
  case isFalse => simp [evalA] at hv
  rename_i hok
  obtain ⟨dst, op, ty, pos, after, guard⟩ := o
  simp only at *
  have lift : ∀ {s : Sem Value} {v' : Value} {w' : World}, s.run P w = .ok v' w' →
      execOp ea { dst := dst, op := op, type := ty, pos := pos, after := after, guard := guard } = (do pure (.value (← s))) →
      (execOp ea { dst := dst, op := op, type := ty, pos := pos, after := after, guard := guard }).run P w = .ok (.value v') w' := by
    intro s v' w' h he; rw [he]; simp [h]
  cases op <;> (try (simp only [cOp'] at hv)) <;> (try (simp [evalA] at hv; done))
  case alloc t =>
    cases hz : cZero P t with
    | none => simp [hz, evalA] at hv
    | some z =>
      simp only [hz, evalA, Option.some.injEq, Prod.mk.injEq] at hv
      obtain ⟨rfl, rfl, rfl⟩ := hv
      refine ⟨vcells z, all_closed_refl (cZero_closed hz).2, .pointer (some ⟨w.heap.size, 0, none⟩), lift (s := Instr.alloc t true (.tuple #[])) ?_ rfl, fun ρ' b hb => .ptr hb⟩
      simp only [Instr.alloc, Sem.run_bind, run_zero hz, Result.andThen_ok, newVar, newRow]
      simp [newObj, Sem.run]
      congr 2
      apply Array.ext'; exact vcells_eq z
  case box t x =>
    simp only [evalA, Option.some.injEq, Prod.mk.injEq] at hv
    obtain ⟨rfl, rfl, rfl⟩ := hv
    have hx := H x (by simp [Op.operands])
    refine ⟨vcells (ea x), hx.cells, .pointer (some ⟨w.heap.size, 0, none⟩), lift (s := Instr.box t (ea x)) ?_ rfl, fun ρ' b hb => .ptr hb⟩
    simp only [Instr.box, Sem.run_bind, newVar, newRow]
    simp [newObj, Sem.run]
    congr 2
    apply Array.ext'; exact vcells_eq _
  case build t parts =>
    split at hv <;> (try (simp [evalA] at hv; done))
    all_goals
      split at hv <;> (try (simp [evalA] at hv; done))
      split at hv <;> (try (simp [evalA] at hv; done))
  case buildSlice t n parts =>
    cases hd : P.underlying t with
    | none => simp [hd, evalA] at hv
    | some d =>
      cases d <;> simp only [hd] at hv <;> try (simp [evalA] at hv; done)
      rename_i e
      cases hs : cSize P e with
      | none => simp [hs, evalA] at hv
      | some s =>
        cases hz : cZero P e with
        | none => simp [hs, hz, evalA] at hv
        | some z =>
          simp only [hs, hz] at hv
          split at hv
          case isFalse => simp [evalA] at hv
          rename_i hle
          cases hl : cParts (fun i => some (i * s, s)) parts.toList with
          | none => simp [hl, evalA] at hv
          | some l =>
            simp only [hl, evalA, Option.map_eq_some_iff] at hv
            obtain ⟨r, hr, he⟩ := hv
            simp only [Prod.mk.injEq] at he
            obtain ⟨rfl, rfl, rfl⟩ := he
            have hzc : Rvs ρ ((Array.range (n * s)).map (z.cells[· % z.cells.size]!)).toList ((Array.range (n * s)).map (z.cells[· % z.cells.size]!)).toList := by
              refine all_closed_refl (List.all_eq_true.2 fun v hv => ?_)
              rw [Array.toList_map, List.mem_map] at hv
              obtain ⟨j, _, rfl⟩ := hv
              by_cases hj : j % z.cells.size < z.cells.size
              · rw [getElem!_pos z.cells _ hj]
                have := (cZero_closed hz).2
                rw [← vcells_eq] at this
                exact List.all_eq_true.1 this _ (by simp)
              · rw [getElem!_neg z.cells _ hj]; rfl
            obtain ⟨r', h1, h2⟩ := fillL_ok hzc (cParts_PR (ρ := ρ) (ev := ev) (ea := ea) hl (fun p hp => H p.2 (by
              simp only [Op.operands, List.toList_toArray, List.mem_map]; exact ⟨p, hp, rfl⟩))) hr
            refine ⟨r', h2, .slice (some ⟨w.heap.size, 0, none⟩) n n, lift (s := Instr.buildSlice t n (parts.map fun (i, x) => (i, ea x))) ?_ rfl, fun ρ' b hb => .slice (x := 0) hb⟩
            have h1' : Instr.fill (fun i => some (i * s, s)) ((Array.range (n * s)).map (z.cells[· % z.cells.size]!)) (parts.map fun (i, x) => (i, ea x)).toList = some ⟨r'⟩ := by
              rw [Array.toList_map]; exact h1
            simp only [Instr.buildSlice, Sem.run_bind, run_und hd, Result.andThen_ok, run_size hs]
            rw [if_neg (by simp; omega), if_neg (by omega)]
            simp only [Sem.run_bind, run_zero hz, Result.andThen_ok, Sem.run_pure]
            rw [h1']
            simp [newRow, newObj, Sem.run]
  case load t x => split at hv <;> simp [evalA] at hv
  case store t a x => split at hv <;> simp [evalA] at hv
  case makeMap t r => cases r <;> simp [evalA] at hv
  case makeSlice t l c =>
    cases hd : P.underlying t with
    | none => simp [hd, evalA] at hv
    | some d =>
      cases d <;> simp only [hd] at hv <;> try (simp [evalA] at hv; done)
      rename_i e
      cases hi : P.info? e with
      | none => simp [hi, evalA] at hv
      | some i =>
        cases hz : cZero P e with
        | none => simp [hi, hz, evalA] at hv
        | some z =>
          simp only [hi, hz] at hv
          split at hv
          case isFalse => simp [evalA] at hv
          rename_i hc
          simp only [Bool.and_eq_true, decide_eq_true_eq] at hc
          obtain ⟨⟨h1, h2⟩, h3⟩ := hc
          simp only [evalA] at hv
          have hl := H l (by simp [Op.operands])
          have hcc := H c (by simp [Op.operands])
          have h5 : ∃ k k' a b, ev l = .int k a ∧ ev c = .int k' b := by
            revert hv; generalize ev l = vl; generalize ev c = vc; intro hv
            cases vl <;> (try simp only at hv) <;> try (cases hv; done)
            cases vc <;> (try simp only at hv) <;> try (cases hv; done)
            exact ⟨_, _, _, _, rfl, rfl⟩
          obtain ⟨k, k', a, b, e1, e2⟩ := h5
          rw [e1, e2] at hv
          rw [e1] at hl
          rw [e2] at hcc
          simp only at hv
          split at hv
          case isFalse => cases hv
          rename_i hab
          simp only [Option.some.injEq, Prod.mk.injEq] at hv
          obtain ⟨rfl, rfl, rfl⟩ := hv
          have hz1 : z.cells = #[z] := by cases z <;> first | rfl | simp [oneC] at h1
          refine ⟨List.replicate b.toNat z, ?_, .slice (some ⟨w.heap.size, 0, none⟩) a.toNat b.toNat, lift (s := Instr.makeSlice t (ea l) (ea c)) ?_ rfl, fun ρ' b hb => .slice (x := 0) hb⟩
          · exact Rvs.replicate _ (closed_refl (cZero_closed hz).1)
          · rw [hl.int_inv, hcc.int_inv]
            have wa : IntKind.i64.wrap a = a := by simp only [IntKind.wrap, IntKind.bits, IntKind.signed]; simp; omega
            have wb : IntKind.i64.wrap b = b := by simp only [IntKind.wrap, IntKind.bits, IntKind.signed]; simp; omega
            have hbb : (i.bytes : Int) * b ≤ 281474976710656 := by rw [Int.mul_comm]; exact hab.2.2.1
            have t1 : ¬ (281474976710656 < (i.bytes : Int) * b) := by omega
            have hs1 : (sizeOf e).run P w = .ok 1 w := run_size (by simp [cSize, hi, h2])
            simp only [Instr.makeSlice, Sem.run_bind, run_und hd, Result.andThen_ok, asInt, asIntOf, Sem.run_pure, run_info hi, wa, wb]
            have hcond : ((decide (b < 0) || decide ((i.bytes : Int) * b > 2 ^ 48)) || decide (a < 0) || decide (a > b)) = false := by
              simp; refine ⟨⟨⟨?_, ?_⟩, ?_⟩, ?_⟩ <;> omega
            rw [if_neg (by rw [hcond]; simp)]
            simp only [Sem.run_bind, hs1, Result.andThen_ok]
            have har : (askRoom (b.toNat * i.bytes)).run P w = .ok () w := by unfold askRoom; split <;> rfl
            simp only [har, Result.andThen_ok, hs1, Nat.mul_one]
            by_cases hb0 : b.toNat = 0
            · rw [if_pos hb0]
              simp [newRow, newObj, Sem.run, hb0]
              congr 2
              apply Array.ext_getElem?
              intro j
              simp
            · rw [if_neg hb0]
              simp only [Sem.run_bind, run_zero hz, Result.andThen_ok, Sem.run_pure, hz1]
              simp only [newRow, newObj, Sem.run_bind, Sem.run, Result.andThen_ok]
              simp [Sem.run]
              congr 2
              apply Array.ext_getElem?
              intro j
              by_cases hj : j < b.toNat
              · simp [hj, Nat.mod_one]
              · simp [hj]
  case binOp op t x y yt => have := evalA_kind hv; rw [cBin_kind] at this; cases this
  case convert s d x =>
    split at hv <;> (try (simp [evalA] at hv; done))
    all_goals (split at hv <;> (try (simp [evalA] at hv; done)))
    all_goals (split at hv <;> simp [evalA] at hv)
  case makeInterface t x => split at hv <;> simp [evalA] at hv
  case slice t x lo hi mx =>
    cases mx <;> simp only [] at hv
    · split at hv <;> (try (simp [evalA] at hv; done))
      all_goals (split at hv <;> simp [evalA] at hv)
    · simp [evalA] at hv
  case fieldAddr t x f =>
    split at hv <;> (try (simp [evalA] at hv; done))
    split at hv <;> (try (simp [evalA] at hv; done))
    split at hv <;> (try (simp [evalA] at hv; done))
    split at hv <;> simp [evalA] at hv
  case field t x f =>
    split at hv <;> (try (simp [evalA] at hv; done))
    split at hv <;> (try (simp [evalA] at hv; done))
    split at hv <;> simp [evalA] at hv
  case indexAddr t x i =>
    split at hv <;> (try (simp [evalA] at hv; done))
    all_goals (split at hv <;> simp [evalA] at hv)
  case index t x i =>
    split at hv <;> (try (simp [evalA] at hv; done))
    split at hv <;> simp [evalA] at hv
  case lookup t x i ok =>
    split at hv <;> (try (simp [evalA] at hv; done))
    split at hv <;> simp [evalA] at hv
  case mapUpdate t m k x =>
    split at hv <;> (try (simp [evalA] at hv; done))
    split at hv <;> simp [evalA] at hv
  case call c => have := evalA_kind hv; rcases cCall_kind (P := P) c with h | h <;> rw [h] at this <;> cases this
  case defer c => split at hv <;> simp [evalA] at hv

end
end Go.Am
