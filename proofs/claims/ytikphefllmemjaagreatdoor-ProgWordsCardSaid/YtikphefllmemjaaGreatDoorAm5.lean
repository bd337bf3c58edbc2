import Derived.Test.YtikphefllmemjaaGreatDoorAm4
/-
The engine, part 5: the operations that leave the world as it is, one by one.
-/
namespace Go.Am
open Go
set_option linter.unusedVariables false
set_option linter.unusedSimpArgs false

theorem pureRun_run {α : Type} (P : Program) (w : World) : ∀ (s : Sem α) (a : α), pureRun P s = some a → s.run P w = .ok a w := by
  intro s
  induction s with
  | pure a => intro b h; simp [pureRun] at h; subst h; rfl
  | program k ih => intro b h; simp only [pureRun] at h; simpa [Sem.run] using ih P b h
  | _ => intro b h; simp [pureRun] at h

section
variable {P : Program} {ρ : Ren} {g : VH} {w : World} {ev : Operand → Value} {ea : Operand → Value}

theorem run_places {fs : List Field} : ∀ {ps : List (Nat × Nat)}, cPlaces P fs = some ps →
    (fs.mapM (fun f => do pure (f.offset, ← sizeOf f.type) : Field → Sem (Nat × Nat))).run P w = .ok ps w := by
  induction fs with
  | nil => intro ps h; simp [cPlaces] at h; subst h; simp
  | cons f fs ih =>
    intro ps h
    simp only [cPlaces] at h
    cases hs : cSize P f.type with
    | none => simp [hs] at h
    | some s =>
      cases hr : cPlaces P fs with
      | none => simp [hs, hr] at h
      | some r =>
        simp [hs, hr] at h
        subst h
        simp only [List.mapM_cons, Sem.run_bind, run_size hs, Result.andThen_ok, Sem.run_pure, ih hr]

theorem cParts_PR {place : Nat → Option (Nat × Nat)} : ∀ {ps : List (Nat × Operand)} {l : List (Nat × Nat × Operand)}, cParts place ps = some l →
    (∀ p ∈ ps, Rv ρ (ev p.2) (ea p.2)) → PR ρ place (l.map fun q => (q.1, q.2.1, ev q.2.2)) (ps.map fun p => (p.1, ea p.2))
  | [], l, h, _ => by simp [cParts] at h; subst h; exact .nil
  | (i, x) :: ps, l, h, H => by
    simp only [cParts] at h
    cases hp : place i with
    | none => simp [hp] at h
    | some os =>
      obtain ⟨o, s⟩ := os
      cases hr : cParts place ps with
      | none => simp [hp, hr] at h
      | some r =>
        simp [hp, hr] at h
        subst h
        exact .cons hp (H (i, x) (List.mem_cons_self ..)) (cParts_PR hr (fun p hm => H p (List.mem_cons_of_mem _ hm)))

theorem cParts_congr {p p' : Nat → Option (Nat × Nat)} (h : ∀ i, p i = p' i) : ∀ ps : List (Nat × Operand), cParts p ps = cParts p' ps
  | [] => rfl
  | (i, x) :: ps => by simp only [cParts, h i, cParts_congr h ps]

theorem q_build (t : TypeId) (parts : Array (Nat × Operand)) (H : ∀ p ∈ parts.toList, Rv ρ (ev p.2) (ea p.2)) {v : Value}
    (hv : evalQ P ev g (cOp' P (.build t parts)) = some v) :
    ∃ v', (Instr.build t (parts.map fun (i, x) => (i, ea x))).run P w = .ok v' w ∧ Rv ρ v v' := by
  simp only [cOp'] at hv
  cases hz : cZero P t with
  | none => simp [hz, evalQ] at hv
  | some z =>
    cases hd : P.underlying t with
    | none => simp [hz, hd, evalQ] at hv
    | some d =>
      have hzc := all_closed_refl (ρ := ρ) (cZero_closed hz).2
      have hfin : ∀ (place : Nat → Option (Nat × Nat)) (l : List (Nat × Nat × Operand)), cParts place parts.toList = some l →
          evalQ P ev g (.build (vcells z) l) = some v → ∃ r', Instr.fill place z.cells (parts.map fun (i, x) => (i, ea x)).toList = some ⟨r'⟩ ∧ Rv ρ v (.agg ⟨r'⟩) := by
        intro place l hl he
        simp only [evalQ, Option.map_eq_some_iff] at he
        obtain ⟨r, hr, rfl⟩ := he
        obtain ⟨r', h1, h2⟩ := fillL_ok hzc (cParts_PR (ρ := ρ) (ev := ev) (ea := ea) hl H) hr
        refine ⟨r', ?_, Rv.agg' h2⟩
        have e : z.cells = ⟨vcells z⟩ := by apply Array.ext'; exact vcells_eq z
        rw [e, Array.toList_map]; exact h1
      cases d <;> simp only [hz, hd] at hv <;> try (simp [evalQ] at hv; done)
      case struct fs =>
        cases hp : cPlaces P fs.toList with
        | none => simp [hp, evalQ] at hv
        | some ps =>
          simp only [hp] at hv
          cases hl : cParts (ps[·]?) parts.toList with
          | none => simp [hl, evalQ] at hv
          | some l =>
            simp only [hl] at hv
            obtain ⟨r', h1, h2⟩ := hfin _ l hl hv
            refine ⟨_, ?_, h2⟩
            have hm : (fs.mapM (fun f => do pure (f.offset, ← sizeOf f.type) : Field → Sem (Nat × Nat))).run P w = .ok ps.toArray w := by
              rw [Array.mapM_eq_mapM_toList, Sem.run_map, run_places hp]; rfl
            simp only [Instr.build, Sem.run_bind, run_zero hz, Result.andThen_ok, run_und hd, hm]
            have e : (fun x : Nat => ps.toArray[x]?) = (fun x : Nat => ps[x]?) := by funext i; simp
            rw [e, h1]
            rfl
      case array n e =>
        cases hs : cSize P e with
        | none => simp [hs, evalQ] at hv
        | some s =>
          simp only [hs] at hv
          cases hl : cParts (fun i => some (i * s, s)) parts.toList with
          | none => simp [hl, evalQ] at hv
          | some l =>
            simp only [hl] at hv
            obtain ⟨r', h1, h2⟩ := hfin _ l hl hv
            refine ⟨_, ?_, h2⟩
            simp only [Instr.build, Sem.run_bind, run_zero hz, Result.andThen_ok, run_und hd, run_size hs, h1, Sem.run_pure]

theorem intBin_ok {op : BinOp} {k : IntKind} {a b : Int} {v : Value} (hv : intBin op k a b = some v) (t : TypeId) :
    (binOp op t (.int k a) (.int k b)).run P w = .ok v w ∧ Rv ρ v v := by
  cases op <;> simp only [intBin, Option.some.injEq] at hv <;> try (cases hv; done)
  case quo => split at hv <;> cases hv; rename_i hb; exact ⟨by simp [binOp, Op.intDiv, hb], .int _ _⟩
  case rem => split at hv <;> cases hv; rename_i hb; exact ⟨by simp [binOp, Op.intDiv, hb], .int _ _⟩
  all_goals subst hv
  all_goals first
    | exact ⟨by simp [binOp, Op.intArith, Op.intBits, Op.intCmp], .int _ _⟩
    | exact ⟨by simp [binOp, Op.intArith, Op.intBits, Op.intCmp], .bool _⟩

theorem strBin_ok {op : BinOp} {a b : ByteArray} {v : Value} (hv : strBin op a b = some v) (t : TypeId) :
    (binOp op t (.string a) (.string b)).run P w = .ok v w ∧ Rv ρ v v := by
  cases op <;> simp only [strBin, Option.some.injEq] at hv <;> try (cases hv; done)
  case add =>
    split at hv <;> cases hv
    rename_i hle
    refine ⟨?_, .string _⟩
    simp only [binOp, Op.stringOp]
    rw [if_neg (by simp only [IntKind.max, IntKind.signed, IntKind.bits]; simp; omega)]
    rfl
  all_goals subst hv
  all_goals exact ⟨by simp [binOp, Op.stringOp], .bool _⟩

theorem binV_ok {op : BinOp} {x y x' y' : Value} (hx : Rv ρ x x') (hy : Rv ρ y y') {v : Value} (hv : binV op x y = some v) (t : TypeId) :
    (binOp op t x' y').run P w = .ok v w ∧ Rv ρ v v := by
  cases hx <;> cases hy <;> simp only [binV] at hv <;> try (cases hv; done)
  case int.int k a k' b =>
    cases op <;> simp only at hv
    case shl => split at hv <;> cases hv; rename_i hb; exact ⟨by simp [binOp, Op.shift, hb], .int _ _⟩
    case shr => split at hv <;> cases hv; rename_i hb; exact ⟨by simp [binOp, Op.shift, hb], .int _ _⟩
    all_goals
      split at hv <;> try (cases hv; done)
      rename_i hk
      subst hk
      exact intBin_ok hv t
  case string.string a b => exact strBin_ok hv t

theorem eqGuard_run {op : BinOp} {t : TypeId} {x y : Operand} {a b : Value} (h : ¬ (a = .nilIface ∧ b = .nilIface)) (h2 : ∀ c d, ¬ (a = .agg c ∧ b = .agg d)) :
    (eqGuard op t x y a b).run P w = .ok () w := by
  have e : eqGuard op t x y a b = pure () := by
    cases a
    case nilIface => cases b <;> first | (exfalso; exact h ⟨rfl, rfl⟩) | (cases op <;> rfl)
    case agg c => cases b <;> first | (exfalso; exact h2 _ _ ⟨rfl, rfl⟩) | (cases op <;> rfl)
    all_goals (cases op <;> rfl)
  rw [e]; rfl

end
end Go.Am
