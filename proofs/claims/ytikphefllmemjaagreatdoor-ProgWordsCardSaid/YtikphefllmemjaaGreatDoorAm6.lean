import Derived.Test.YtikphefllmemjaaGreatDoorAm5
/-
The engine, part 6: the other quiet operations.
-/
namespace Go.Am
open Go
set_option linter.unusedVariables false
set_option linter.unusedSimpArgs false

section
variable {P : Program} {ρ : Ren} {g : VH} {w : World} {ev : Operand → Value} {ea : Operand → Value}

theorem Rv.bool_inv {b : Bool} {v : Value} (h : Rv ρ (.bool b) v) : v = .bool b := by cases h; rfl
theorem Rv.int_inv {k : IntKind} {b : Int} {v : Value} (h : Rv ρ (.int k b) v) : v = .int k b := by cases h; rfl
theorem Rv.string_inv {s : ByteArray} {v : Value} (h : Rv ρ (.string s) v) : v = .string s := by cases h; rfl

theorem decide_addr {r r' : Nat} {o o' : Nat} : ((⟨r, o, none⟩ : Addr) = ⟨r', o', none⟩) ↔ (r = r' ∧ o = o') := by simp

theorem eqNil_ok {k : Nat} {t : TypeId} {d : TypeDesc} (hd : P.underlying t = some d)
    (hk : match k with | 0 => ∃ e s, d = .pointer e ∧ cSize P e = some s ∧ s ≠ 0 | 1 => ∃ e, d = .slice e | 2 => ∃ a b, d = .map a b | 3 => ∃ a b c, d = .func a b c | 4 => ∃ m, d = .interface m | _ => False)
    {x y x' y' : Value} (hx : Rv ρ x x') (hy : Rv ρ y y') {b : Bool} (hv : eqNil k x y = some b) : (Op.equal t x' y').run P w = .ok b w := by
  have key : ∀ d' : Nat, (Op.equalIn (d' + 1) t x' y').run P w = .ok b w := by
    intro d'
    unfold eqNil at hv
    split at hv <;> try (cases hv; done)
    all_goals (try simp only at hk)
    all_goals (try (split at hv <;> try (cases hv; done)))
    all_goals (try (cases hv))
    all_goals cases hx <;> cases hy
    all_goals first
      | (obtain ⟨e, s, rfl, hs, hne⟩ := hk; simp [Op.equalIn, run_und hd, run_size hs, hne, sameAddr]; done)
      | (obtain ⟨e, rfl⟩ := hk; simp [Op.equalIn, run_und hd]; done)
      | (obtain ⟨e, e', rfl⟩ := hk; simp [Op.equalIn, run_und hd]; done)
      | (obtain ⟨e, e', e'', rfl⟩ := hk; simp [Op.equalIn, run_und hd]; done)
      | skip
    all_goals
      rename_i b1 r1 x1 o1 hb1 b2 r2 x2 o2 hb2 he
      obtain ⟨e, s, rfl, hs, hne⟩ := hk
      (try simp only at he)
      subst he
      have hbb : r1 = r2 := by
        have := hb1.symm.trans hb2
        simp at this
        exact this.1
      subst hbb
      simp [Op.equalIn, run_und hd, run_size hs, hne, sameAddr]
      by_cases ho : o1 = o2
      · subst ho; simp
      · simp [ho]
  exact key 9999

theorem binOp_eq_run {neg : Bool} {op : BinOp} (hop : op = .eql ∧ neg = false ∨ op = .neq ∧ neg = true) {t : TypeId} {x y : Value}
    (e1 : binOp .eql t x y = (do pure (.bool (← Op.equal t x y)))) (e2 : binOp .neq t x y = (do pure (.bool (!(← Op.equal t x y)))))
    {b : Bool} (h : (Op.equal t x y).run P w = .ok b w) : (binOp op t x y).run P w = .ok (.bool (b != neg)) w := by
  rcases hop with ⟨rfl, rfl⟩ | ⟨rfl, rfl⟩
  · rw [e1]; simp [h]
  · rw [e2]; simp [h]

/-- 'run': the whole of a comparison of two values that are no numbers and no strings -/
def cmpKind : Value → Bool
  | .int .. | .string .. | .float .. | .complex .. => false
  | _ => true
theorem binOp_cmp {t : TypeId} {x y : Value} (hx : cmpKind x = true) :
    binOp .eql t x y = (do pure (.bool (← Op.equal t x y))) ∧ binOp .neq t x y = (do pure (.bool (!(← Op.equal t x y)))) := by
  cases x <;> simp only [cmpKind] at hx <;> first | (exact ⟨rfl, rfl⟩) | (cases y <;> first | exact ⟨rfl, rfl⟩ | cases hx) | cases hx
theorem cmp_run {neg : Bool} {op : BinOp} (hop : op = .eql ∧ neg = false ∨ op = .neq ∧ neg = true) {t : TypeId} {xo yo : Operand} {x y : Value}
    (hx : cmpKind x = true) (hg : (eqGuard op t xo yo x y).run P w = .ok () w)
    {b : Bool} (h : (Op.equal t x y).run P w = .ok b w) : ((do eqGuard op t xo yo x y; binOp op t x y : Sem Value)).run P w = .ok (.bool (b != neg)) w := by
  simp only [Sem.run_bind, hg, Result.andThen_ok]
  exact binOp_eq_run hop (binOp_cmp hx).1 (binOp_cmp hx).2 h

theorem eqNil_kind {k : Nat} {x y : Value} {b : Bool} (h : eqNil k x y = some b) : cmpKind x = true ∧ (∀ c d, ¬ (x = .agg c ∧ y = .agg d)) ∧ (k ≠ 4 → ¬ (x = .nilIface ∧ y = .nilIface)) := by
  unfold eqNil at h
  split at h <;> first | cases h; done | (refine ⟨rfl, ?_, ?_⟩ <;> simp)

theorem Rv.cmpKind {x x' : Value} (h : Rv ρ x x') : Am.cmpKind x' = Am.cmpKind x := by cases h <;> rfl
theorem Rv.isAgg {x : Value} {c : Array Value} (h : Rv ρ x (.agg c)) : ∃ c', x = .agg c' := by cases h; exact ⟨_, rfl⟩
theorem Rv.isNilI {x : Value} (h : Rv ρ x .nilIface) : x = .nilIface := by cases h; rfl

theorem q_bin (op : BinOp) (t : TypeId) (x y : Operand) (hx : Rv ρ (ev x) (ea x)) (hy : Rv ρ (ev y) (ea y)) {v : Value}
    (hv : evalQ P ev g (cBin P op t x y) = some v) :
    ∃ v', ((do eqGuard op t x y (ea x) (ea y); binOp op t (ea x) (ea y) : Sem Value)).run P w = .ok v' w ∧ Rv ρ v v' := by
  have plain : ∀ {v : Value}, binV op (ev x) (ev y) = some v → ∃ v', ((do eqGuard op t x y (ea x) (ea y); binOp op t (ea x) (ea y) : Sem Value)).run P w = .ok v' w ∧ Rv ρ v v' := by
    intro v hv
    obtain ⟨h1, h2⟩ := binV_ok (P := P) (w := w) hx hy hv t
    refine ⟨v, ?_, h2⟩
    have hg : (eqGuard op t x y (ea x) (ea y)).run P w = .ok () w := by
      refine eqGuard_run ?_ ?_
      · rintro ⟨h, _⟩
        rw [h] at hx
        rw [hx.isNilI] at hv
        simp [binV] at hv
      · rintro c d ⟨h, _⟩
        rw [h] at hx
        obtain ⟨c', hc'⟩ := hx.isAgg
        rw [hc'] at hv
        simp [binV] at hv
    simp only [Sem.run_bind, hg, Result.andThen_ok, h1]
  unfold cBin at hv
  cases hd : P.underlying t with
  | none => simp [hd, evalQ] at hv
  | some d =>
    have hcmp : ∀ (k : Nat), (match k with | 0 => ∃ e s, d = .pointer e ∧ cSize P e = some s ∧ s ≠ 0 | 1 => ∃ e, d = .slice e | 2 => ∃ a b, d = .map a b | 3 => ∃ a b c, d = .func a b c | 4 => ∃ m, d = .interface m | _ => False) →
        (k = 4 → (∃ c, x = .const c) ∨ (∃ c, y = .const c)) → (op = .eql ∨ op = .neq) →
        evalQ P ev g (.nilEq (negOf op) k x y) = some v →
        ∃ v', ((do eqGuard op t x y (ea x) (ea y); binOp op t (ea x) (ea y) : Sem Value)).run P w = .ok v' w ∧ Rv ρ v v' := by
      intro k hk h4 hop he
      simp only [evalQ, Option.map_eq_some_iff] at he
      obtain ⟨b, hb, rfl⟩ := he
      obtain ⟨hk1, hk2, hk3⟩ := eqNil_kind hb
      refine ⟨_, cmp_run (neg := negOf op) ?_ (by rw [hx.cmpKind]; exact hk1) ?_ (eqNil_ok hd hk hx hy hb), .bool _⟩
      · rcases hop with rfl | rfl <;> simp [negOf]
      · by_cases h : ea x = .nilIface ∧ ea y = .nilIface
        · rw [h.1, h.2]
          have hk4 : k = 4 := by
            by_cases hk4 : k = 4
            · exact hk4
            · exfalso; rw [h.1] at hx; rw [h.2] at hy; exact hk3 hk4 ⟨hx.isNilI, hy.isNilI⟩
          rcases h4 hk4 with ⟨c, rfl⟩ | ⟨c, rfl⟩
          · cases op <;> rfl
          · cases op <;> cases x <;> rfl
        · refine eqGuard_run h ?_
          rintro c e ⟨h1, h2⟩
          rw [h1] at hx; rw [h2] at hy
          obtain ⟨c', hc'⟩ := hx.isAgg
          obtain ⟨e', he'⟩ := hy.isAgg
          exact hk2 c' e' ⟨hc', he'⟩
    rw [hd] at hv
    cases d <;> simp only at hv <;> try (exact plain hv)
    all_goals
      split at hv
      case isFalse => simp [evalQ] at hv
      rename_i hop
    all_goals try (simp [evalQ] at hv; done)
    case some.bool.isTrue =>
      simp only [evalQ] at hv
      generalize ev x = vx at *
      generalize ev y = vy at *
      generalize ea x = ux at *
      generalize ea y = uy at *
      cases hx <;> (try simp only at hv) <;> try (cases hv; done)
      cases hy <;> (try simp only at hv) <;> try (cases hv; done)
      rename_i a b
      cases hv
      refine ⟨_, cmp_run (neg := negOf op) ?_ rfl (eqGuard_run (by simp) (by simp)) ?_, .bool _⟩
      · rcases hop with rfl | rfl <;> simp [negOf]
      · have key : ∀ d' : Nat, (Op.equalIn (d' + 1) t (.bool a) (.bool b)).run P w = .ok (a == b) w := fun d' => by simp [Op.equalIn, run_und hd]
        exact key 9999
    case some.pointer.isTrue e =>
      cases hs : cSize P e with
      | none => simp [hs, evalQ] at hv
      | some s =>
        simp only [hs] at hv
        split at hv
        · exact hcmp 0 ⟨e, s, rfl, hs, ‹_›⟩ (by simp) hop hv
        · simp [evalQ] at hv
    case some.slice.isTrue e => exact hcmp 1 ⟨e, rfl⟩ (by simp) hop hv
    case some.map.isTrue a b => exact hcmp 2 ⟨a, b, rfl⟩ (by simp) hop hv
    case some.func.isTrue a b c => exact hcmp 3 ⟨a, b, c, rfl⟩ (by simp) hop hv
    case some.interface.isTrue m =>
      split at hv
      · exact hcmp 4 ⟨m, rfl⟩ (fun _ => .inl ⟨_, rfl⟩) hop hv
      · exact hcmp 4 ⟨m, rfl⟩ (fun _ => .inr ⟨_, rfl⟩) hop hv
      · simp [evalQ] at hv
    case some.struct.isTrue fs =>
      split at hv
      · simp [evalQ] at hv
      · rename_i hgt
        simp only [evalQ] at hv
        split at hv
        case isFalse => cases hv
        rename_i hc
        rw [Bool.and_eq_true] at hc
        simp only [Option.map_eq_some_iff] at hv
        obtain ⟨b, hb, rfl⟩ := hv
        have ex := closed_eq hc.1 hx
        have ey := closed_eq hc.2 hy
        have hrun := pureRun_run P w _ _ hb
        by_cases hck : cmpKind (ev x) = true
        · refine ⟨_, cmp_run (neg := negOf op) ?_ (by rw [ex]; exact hck) ?_ (by rw [ex, ey]; exact hrun), .bool _⟩
          · rcases hop with rfl | rfl <;> simp [negOf]
          · rw [ex, ey]
            by_cases h2 : ∃ c d, ev x = .agg c ∧ ev y = .agg d
            · obtain ⟨c, d, h3, h4⟩ := h2
              rw [h3, h4]
              unfold eqGuard
              rcases hop with rfl | rfl <;> simp [hgt]
            · refine eqGuard_run ?_ (fun c d h => h2 ⟨c, d, h.1, h.2⟩)
              rintro ⟨h3, h4⟩
              rw [h3, h4] at hrun
              have key : ∀ d' : Nat, (Op.equalIn (d' + 1) t .nilIface .nilIface).run P w = .halt (.stuck "==: the operands do not fit the type, or the type is not comparable") w := fun d' => by simp [Op.equalIn, run_und hd]
              have k2 := key 9999
              rw [show Op.equalIn (9999 + 1) t .nilIface .nilIface = Op.equal t .nilIface .nilIface from rfl, hrun] at k2
              cases k2
        · exfalso
          have key : ∀ d' : Nat, (Op.equalIn (d' + 1) t (ev x) (ev y)).run P w ≠ .ok b w := fun d' => by
            cases hxx : ev x <;> simp only [hxx, cmpKind] at hck <;> try (exact absurd trivial hck)
            all_goals (try (simp at hck; done))
            all_goals simp [Op.equalIn, run_und hd]
          exact key 9999 hrun
end
end Go.Am
