import Derived.Test.YtikphefllmemjaaGreatDoorAm21
/-
The engine, part 22: a program's table, as a tree by function number.
-/
namespace Go.Am
open Go
set_option linter.unusedVariables false
set_option linter.unusedSimpArgs false

inductive FT (α : Type)
  | lf
  | nd (l r : FT α) (v : Option α)
def FT.get {α : Type} : FT α → Nat → Option α
  | .lf, _ => none
  | .nd l r v, k => match k with
    | 0 => v
    | k + 1 => if Nat.beq (k % 2) 0 then l.get (k / 2) else r.get (k / 2)

/-- every entry stands as 'q' says -/
inductive FT.All {α : Type} (q : Nat → α → Prop) : FT α → Nat → Nat → Prop
  | lf (m s : Nat) : FT.All q .lf m s
  | nd {l r : FT α} {v : Option α} (m s : Nat) : (∀ a, v = some a → q s a) → FT.All q l (2 * m) (s + m) → FT.All q r (2 * m) (s + 2 * m) → FT.All q (.nd l r v) m s

theorem FT.All.at {α : Type} {q : Nat → α → Prop} {t : FT α} {m s : Nat} (h : FT.All q t m s) : ∀ k a, t.get k = some a → q (s + m * k) a := by
  induction h with
  | lf m s => intro k a h; simp [FT.get] at h
  | @nd l r v m s hv _ _ ih1 ih2 =>
    intro k a h
    cases k with
    | zero => simp only [FT.get] at h; simpa using hv a h
    | succ k =>
      simp only [FT.get] at h
      split at h
      · rename_i hb
        have := ih1 _ _ h
        have hk : k % 2 = 0 := Nat.eq_of_beq_eq_true hb
        have e : s + m + 2 * m * (k / 2) = s + m * (k + 1) := by
          have : k = 2 * (k / 2) := by omega
          generalize k / 2 = j at *
          subst this
          rw [Nat.mul_add, Nat.mul_one, Nat.mul_comm 2 m, Nat.mul_assoc]; omega
        rw [e] at this; exact this
      · rename_i hb
        have := ih2 _ _ h
        have hk : k % 2 ≠ 0 := fun e => hb (by rw [e]; rfl)
        have e : s + 2 * m + 2 * m * (k / 2) = s + m * (k + 1) := by
          have : k = 2 * (k / 2) + 1 := by omega
          generalize k / 2 = j at *
          subst this
          rw [Nat.mul_add, Nat.mul_add, Nat.mul_comm 2 m, Nat.mul_assoc]; omega
        rw [e] at this; exact this

def mkT (fns : FT IFn) (dfs : FT IDf) (p : Prims) : Tbl := { fn := fns.get, df := dfs.get, prim := primF p }

theorem mkT_ok {P : Program} {fns : FT IFn} {dfs : FT IDf} {p : Prims} (h1 : FT.All (fun f d => ∃ pf, P.funcs[f]? = some pf ∧ cFn P pf = some d) fns 1 0)
    (h2 : FT.All (fun f d => ∃ pf, P.funcs[f]? = some pf ∧ cDf P pf = some d) dfs 1 0) (h3 : PrimsOk P p) : TblOk P (mkT fns dfs p) :=
  ⟨fun f d h => by have := h1.at f d h; simpa using this, fun f d h => by have := h2.at f d h; simpa using this, primF_sound h3, primF_mono⟩

end Go.Am
