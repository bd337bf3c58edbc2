import Derived.Test.YtikphefllmemjaaGreatDoorAm24
/-
The engine, part 25: what a call answers at some fuel, as a function; code at some fuel.
-/
namespace Go.Am
open Go
set_option linter.unusedVariables false
set_option linter.unusedSimpArgs false

open Classical in
noncomputable def lim (P : Program) (T : Tbl) : CallF := fun f args h => if k : ∃ r, Ev P T f args h r then some k.choose else none

section
variable {P : Program} {T : Tbl}

theorem lim_of {f : FuncId} {args : List Value} {h : AH} {r : Value × AH} (e : Ev P T f args h r) : lim P T f args h = some r := by
  unfold lim
  have k : ∃ r, Ev P T f args h r := ⟨r, e⟩
  rw [dif_pos k]
  rw [Ev.det k.choose_spec e]

theorem lim_ev : EvC P T (lim P T) := by
  intro f args h r k
  unfold lim at k
  split at k
  · rename_i e; cases k; exact e.choose_spec
  · cases k

theorem lim_iff {f : FuncId} {args : List Value} {h : AH} {r : Value × AH} : lim P T f args h = some r ↔ Ev P T f args h r := ⟨lim_ev f args h r, lim_of⟩

/-- code comes to an end so, at some fuel -/
def Ex (P : Program) (T : Tbl) (code : ICode) (st : St) (r : IEx × St) : Prop := ∃ n, exec P (lim P T) n code st = some r

theorem Ex.up {code : ICode} {st : St} {r : IEx × St} {n m : Nat} (hn : n ≤ m) (h : exec P (lim P T) n code st = some r) : exec P (lim P T) m code st = some r := exec_le (CallLe.refl _) hn h

theorem Ex.skip {st : St} : Ex P T .skip st (.normal, st) := ⟨1, rfl⟩
theorem Ex.ret {st : St} : Ex P T .ret st (.ret, st) := ⟨1, rfl⟩
theorem Ex.exit {st : St} {i : Nat} : Ex P T (.exit i) st (.exit i, st) := ⟨1, rfl⟩
theorem Ex.goto {st : St} {l : Nat} : Ex P T (.goto l) st (.goto l, st) := ⟨1, rfl⟩
theorem Ex.label {st : St} {l : Nat} : Ex P T (.label l) st (.normal, st) := ⟨1, rfl⟩
theorem Ex.region {st st' : St} {ops : List IOper} {dr : Option IDraw} (h : runRegion P (lim P T) ops dr st = some st') : Ex P T (.region ops dr) st (.normal, st') := ⟨1, by simp only [exec, h, Option.map_some]⟩
theorem Ex.seq {a b : ICode} {st st' : St} {r : IEx × St} (h : Ex P T a st (.normal, st')) (k : Ex P T b st' r) : Ex P T (.seq a b) st r := by
  obtain ⟨n, h⟩ := h
  obtain ⟨m, k⟩ := k
  refine ⟨max n m + 1, ?_⟩
  simp only [exec, Ex.up (Nat.le_max_left n m) h]
  exact Ex.up (Nat.le_max_right n m) k
theorem Ex.seqX {a b : ICode} {st st' : St} {x : IEx} (h : Ex P T a st (x, st')) (hx : x ≠ .normal) : Ex P T (.seq a b) st (x, st') := by
  obtain ⟨n, h⟩ := h
  refine ⟨n + 1, ?_⟩
  simp only [exec, h]
  cases x <;> first | exact absurd rfl hx | rfl
theorem Ex.cond {c : Operand} {a b : ICode} {st : St} {r : IEx × St} (t : Bool) (hc : evT st.tmps c = .bool t) (h : Ex P T (if t then a else b) st r) : Ex P T (.cond c a b) st r := by
  obtain ⟨n, h⟩ := h
  refine ⟨n + 1, ?_⟩
  simp only [exec, hc]
  exact h
def blockX (id : Nat) : IEx → IEx
  | .exit i => if i = id then .normal else .exit i
  | x => x
theorem Ex.block {id : Nat} {b : ICode} {st st' : St} {x : IEx} (h : Ex P T b st (x, st')) : Ex P T (.block id b) st (blockX id x, st') := by
  obtain ⟨n, h⟩ := h
  refine ⟨n + 1, ?_⟩
  simp only [exec, h]
  cases x <;> rfl
theorem Ex.loopN {b : ICode} {st st' : St} {r : IEx × St} (h : Ex P T b st (.normal, st')) (k : Ex P T (.loop b) st' r) : Ex P T (.loop b) st r := by
  obtain ⟨n, h⟩ := h
  obtain ⟨m, k⟩ := k
  refine ⟨max n m + 1, ?_⟩
  simp only [exec, Ex.up (Nat.le_max_left n m) h]
  exact Ex.up (Nat.le_max_right n m) k
theorem Ex.loopX {b : ICode} {st st' : St} {x : IEx} (h : Ex P T b st (x, st')) (hx : x ≠ .normal) : Ex P T (.loop b) st (x, st') := by
  obtain ⟨n, h⟩ := h
  refine ⟨n + 1, ?_⟩
  simp only [exec, h]
  cases x <;> first | exact absurd rfl hx | rfl
theorem Ex.withinX {b c : ICode} {st st' : St} {x : IEx} (h : Ex P T c st (x, st')) (hx : ∀ l, x ≠ .goto l) : Ex P T (.within b c) st (x, st') := by
  obtain ⟨n, h⟩ := h
  refine ⟨n + 1, ?_⟩
  simp only [exec, h]
  cases x <;> first | exact absurd rfl (hx _) | rfl
theorem Ex.withinG {b c rest : ICode} {st st' : St} {l : Nat} {r : IEx × St} (h : Ex P T c st (.goto l, st')) (hf : findI b l = some rest) (k : Ex P T (.within b rest) st' r) : Ex P T (.within b c) st r := by
  obtain ⟨n, h⟩ := h
  obtain ⟨m, k⟩ := k
  refine ⟨max n m + 1, ?_⟩
  simp only [exec, Ex.up (Nat.le_max_left n m) h, hf]
  exact Ex.up (Nat.le_max_right n m) k
theorem Ex.within0 {b c : ICode} {st st' : St} {l : Nat} (h : Ex P T c st (.goto l, st')) (hf : findI b l = none) : Ex P T (.within b c) st (.goto l, st') := by
  obtain ⟨n, h⟩ := h
  refine ⟨n + 1, ?_⟩
  simp only [exec, h, hf]

/-- a function without deferred calls -/
theorem Ev.fn {f : FuncId} {fn : IFn} {args : List Value} {h : AH} {x : IEx} {st : St} {vs : List Value} (hf : T.fn f = some fn) (hb : Ex P T fn.body ⟨startT args fn.ntmps, h, []⟩ (x, st))
    (hx : x = .normal ∨ x = .ret) (hd : st.ds = []) (hr : resVs st.h st.tmps fn.results = some vs) : Ev P T f args h (packV vs, st.h) := by
  obtain ⟨n, hb⟩ := hb
  refine Ev.intro lim_ev (n := n) ?_
  unfold bodyF
  rw [hf]
  simp only [hb]
  rcases hx with rfl | rfl <;> simp only [finishFn, hd, runDefers, hr]

/-- kernel-run calls -/
theorem Ev.of_run (n : Nat) {f : FuncId} {args : List Value} {h : AH} {r : Value × AH} (k : runFn P T n f args h = some r) : Ev P T f args h r := ⟨n, k⟩

def isTrue : Option (Value × AH) → Bool
  | some (.bool b, _) => b
  | _ => false
theorem Ev.of_true {n : Nat} {f : FuncId} {args : List Value} {h : AH} (k : isTrue (runFn P T n f args h) = true) : ∃ h', Ev P T f args h (.bool true, h') := by
  unfold isTrue at k
  split at k
  · rename_i b h' e; subst k; exact ⟨h', n, e⟩
  · cases k

end
end Go.Am
