import Derived.Test.YtikphefllmemjaaGreatDoorAm25
/-
The engine, part 26: runs over open values: where the machine would stand still at an open value, the answer is given, and its equation is noted as an obligation.
-/
namespace Go.Am
open Go
set_option linter.unusedVariables false
set_option linter.unusedSimpArgs false

inductive Hint
  | q (v : Value)
  | a (cs : List Value) (elem : TypeId) (mk : Nat → Value)
  | x (v : Value) (h : AH)
  | l (v : Value)      -- what is read in a block of a family
  | t (r : Nat) (v : Value)      -- at a region's end: the reader r read in a family

/-- the block that an operation reads -/
def hidLoad (ev : Operand → Value) : IOp → Option Nat
  | .load1 x => match ev x with | .pointer (some ⟨b, _, none⟩) => some b | _ => none
  | .loadN _ x => match ev x with | .pointer (some ⟨b, _, none⟩) => some b | _ => none
  | _ => none
theorem hidLoad_ok {P : Program} {ev : Operand → Value} {op : IOp} {b : Nat} {h : AH} (k : hidLoad ev op = some b) (hb : OFF ≤ b) : evalQ P ev h.get op = evalQ P ev h.hid op := by
  have hg : h.get b = h.hid b := by unfold AH.get; rw [Nat.ble_eq_true_of_le hb]
  unfold hidLoad at k
  split at k
  · split at k
    · rename_i e
      cases k
      simp only [evalQ, e, hg]
    · cases k
  · split at k
    · rename_i e
      cases k
      simp only [evalQ, e, cellsIn, hg]
    · cases k
  · cases k

/-- the answers that are still to come (each with the number of operations ahead of it), and the obligations -/
structure HS where
  hs : List (Nat × Hint)
  cs : List Prop

def AllP : List Prop → Prop
  | [] => True
  | p :: l => p ∧ AllP l

theorem AllP.append : ∀ {a b : List Prop}, AllP (a ++ b) → AllP a ∧ AllP b
  | [], b, h => ⟨trivial, h⟩
  | p :: a, b, h => ⟨⟨h.1, (AllP.append h.2).1⟩, (AllP.append h.2).2⟩

def HS.next (s : HS) : Option Hint × HS :=
  match s.hs with
  | [] => (none, s)
  | (n, x) :: r => match n with
    | 0 => (some x, ⟨r, s.cs⟩)
    | n + 1 => (none, ⟨(n, x) :: r, s.cs⟩)
theorem HS.next_cs (s : HS) : s.next.2.cs = s.cs := by
  unfold HS.next
  split
  · rfl
  · split <;> rfl

abbrev CallH := FuncId → List Value → AH → HS → Option (Value × AH × HS)

section
variable (P : Program) (T : Tbl) (callH : CallH)

def actH (ev : Operand → Value) (h : AH) (s : HS) (op : IOp) : Option (Value × AH × HS) :=
  match evalC ev op with
  | some (f, args) => callH f args h s
  | none => match evalE ev h op with
    | some (v, h') => some (v, h', s)
    | none => none

/-- what an operation does: hd: the heap that it sees -/
def stepOpH (st : St) (s : HS) (o : IOper) : Option (St × HS) :=
  if wantedT st.tmps o.guard then
    match s.next with
    | (some x, s) => match x, o.op.kind with
      | .q v, 0 => some ({ st with tmps := putT st.tmps o.dst v }, ⟨s.hs, (evalQ P (evT st.tmps) st.h.get o.op = some v) :: s.cs⟩)
      | .l v, 0 => match hidLoad (evT st.tmps) o.op with
        | some b => some ({ st with tmps := putT st.tmps o.dst v }, ⟨s.hs, (OFF ≤ b) :: (evalQ P (evT st.tmps) st.h.hid o.op = some v) :: s.cs⟩)
        | none => none
      | .a cs elem mk, 1 => some ({ st with tmps := putT st.tmps o.dst (mk st.h.next), h := st.h.add (.cells cs elem none 0) }, ⟨s.hs, (evalA (evT st.tmps) o.op = some (cs, elem, mk)) :: s.cs⟩)
      | .x v h, 2 => some ({ st with tmps := putT st.tmps o.dst v, h := h }, ⟨s.hs, (act P (lim P T) (evT st.tmps) st.h o.op = some (v, h)) :: s.cs⟩)
      | _, _ => none
    | (none, s) => match o.op.kind with
      | 0 => match evalQ P (evT st.tmps) st.h.get o.op with | some v => some ({ st with tmps := putT st.tmps o.dst v }, s) | none => none
      | 1 => match evalA (evT st.tmps) o.op with
        | some (cs, elem, mk) => some ({ st with tmps := putT st.tmps o.dst (mk st.h.next), h := st.h.add (.cells cs elem none 0) }, s)
        | none => none
      | 2 => match actH callH (evT st.tmps) st.h s o.op with
        | some (v, h, s) => some ({ st with tmps := putT st.tmps o.dst v, h := h }, s)
        | none => none
      | _ => match deferV (evT st.tmps) o.op with
        | some d => some ({ st with tmps := putT st.tmps o.dst undef, ds := d :: st.ds }, s)
        | none => none
  else some ({ st with tmps := putT st.tmps o.dst undef }, s)

def runOpsH : List IOper → St → HS → Option (St × HS)
  | [], st, s => some (st, s)
  | o :: rest, st, s => match stepOpH P T callH st s o with | some (st', s') => runOpsH rest st' s' | none => none

def stepDH (dr : IDraw) (d : DSt) (s : HS) (j : Nat) (o : IOper) : Option (DSt × HS) :=
  let hid := idsOf d.ids (maskOf dr.masks j)
  if wantedT d.st.tmps o.guard then
    match s.next with
    | (some x, s) => match x, o.op.kind with
      | .q v, 0 => some ({ d with st := { d.st with tmps := putT d.st.tmps o.dst v } }, ⟨s.hs, (evalQ P (evT d.st.tmps) (hide d.st.h hid).get o.op = some v) :: s.cs⟩)
      | .l v, 0 => match hidLoad (evT d.st.tmps) o.op with
        | some b => some ({ d with st := { d.st with tmps := putT d.st.tmps o.dst v } }, ⟨s.hs, (OFF ≤ b) :: (evalQ P (evT d.st.tmps) (hide d.st.h hid).hid o.op = some v) :: s.cs⟩)
        | none => none
      | .a cs elem mk, 1 => some ({ d with st := { d.st with tmps := putT d.st.tmps o.dst (mk d.st.h.next), h := d.st.h.add (.cells cs elem none 0) }, ids := (j, d.st.h.next) :: d.ids }, ⟨s.hs, (evalA (evT d.st.tmps) o.op = some (cs, elem, mk)) :: s.cs⟩)
      | .x v h, 2 => some ({ d with st := { d.st with tmps := putT d.st.tmps o.dst v, h := show' h d.st.h hid }, snaps := (j, d.st.h, show' h d.st.h hid) :: d.snaps }, ⟨s.hs, (act P (lim P T) (evT d.st.tmps) (hide d.st.h hid) o.op = some (v, h)) :: s.cs⟩)
      | _, _ => none
    | (none, s) => match o.op.kind with
      | 0 => match evalQ P (evT d.st.tmps) (hide d.st.h hid).get o.op with | some v => some ({ d with st := { d.st with tmps := putT d.st.tmps o.dst v } }, s) | none => none
      | 1 => match evalA (evT d.st.tmps) o.op with
        | some (cs, elem, mk) => some ({ d with st := { d.st with tmps := putT d.st.tmps o.dst (mk d.st.h.next), h := d.st.h.add (.cells cs elem none 0) }, ids := (j, d.st.h.next) :: d.ids }, s)
        | none => none
      | 2 => match actH callH (evT d.st.tmps) (hide d.st.h hid) s o.op with
        | some (v, h, s) => some ({ d with st := { d.st with tmps := putT d.st.tmps o.dst v, h := show' h d.st.h hid }, snaps := (j, d.st.h, show' h d.st.h hid) :: d.snaps }, s)
        | none => none
      | _ => none
  else some ({ d with st := { d.st with tmps := putT d.st.tmps o.dst undef } }, s)

def runDH (dr : IDraw) : List IOper → Nat → DSt → HS → Option (DSt × HS)
  | [], _, d, s => some (d, s)
  | o :: rest, j, d, s => match stepDH P T callH dr d s j o with | some (d', s') => runDH dr rest (j + 1) d' s' | none => none

def optApp : Option (List Prop) → Option (List Prop) → Option (List Prop)
  | some a, some b => some (a ++ b)
  | _, _ => none

/-- what two values must have in common to be one -/
def eqP : Nat → Value → Value → Option (List Prop)
  | 0, _, _ => none
  | n + 1, x, y => match x, y with
    | .bool a, .bool b => some [a = b]
    | .int k a, .int j b => if k = j then some [a = b] else none
    | .string a, .string b => some [a = b]
    | .pointer a, .pointer b => some [a = b]
    | .slice a l c, .slice b m d => some [a = b, l = m, c = d]
    | .map a, .map b => if a = b then some [] else none
    | .nilFunc, .nilFunc => some []
    | .nilIface, .nilIface => some []
    | .agg a, .agg b => if a.toList.length = b.toList.length then (a.toList.zip b.toList).foldr (fun p r => optApp (eqP n p.1 p.2) r) (some []) else none
    | .tuple a, .tuple b => if a.toList.length = b.toList.length then (a.toList.zip b.toList).foldr (fun p r => optApp (eqP n p.1 p.2) r) (some []) else none
    | _, _ => none

theorem eqP_fold {n : Nat} {l : List (Value × Value)} (ih : ∀ (x y : Value) (ps : List Prop), eqP n x y = some ps → AllP ps → eqV n x y = true) : ∀ {ps : List Prop},
    l.foldr (fun p r => optApp (eqP n p.1 p.2) r) (some []) = some ps → AllP ps → (l.all fun (x, y) => eqV n x y) = true := by
  induction l with
  | nil => intro ps _ _; rfl
  | cons p l ihl =>
    intro ps h1 h2
    simp only [List.foldr_cons] at h1
    cases ha : eqP n p.1 p.2 with
    | none => rw [ha] at h1; simp [optApp] at h1
    | some a =>
      cases hb : l.foldr (fun p r => optApp (eqP n p.1 p.2) r) (some []) with
      | none => rw [ha, hb] at h1; simp [optApp] at h1
      | some b =>
        rw [ha, hb] at h1
        simp only [optApp, Option.some.injEq] at h1
        subst h1
        have := AllP.append h2
        simp only [List.all_cons, Bool.and_eq_true]
        exact ⟨ih _ _ _ ha this.1, ihl hb this.2⟩

theorem eqP_ok : ∀ (n : Nat) (x y : Value) (ps : List Prop), eqP n x y = some ps → AllP ps → eqV n x y = true
  | 0, x, y, ps, h, _ => by simp [eqP] at h
  | n + 1, x, y, ps, h, hp => by
    have ih := eqP_ok n
    cases x <;> cases y <;> simp only [eqP] at h <;> first
      | (cases h; done)
      | skip
    all_goals simp only [eqV]
    case bool.bool a b => cases h; simpa using hp.1
    case int.int k a j b => split at h; · cases h; rename_i e; simp [e, hp.1]
                            · cases h
    case string.string a b => cases h; simp [hp.1]
    case pointer.pointer a b => cases h; simp [hp.1]
    case slice.slice a l c b m d => cases h; simp [hp.1, hp.2.1, hp.2.2.1]
    case map.map a b => split at h; · rename_i e; simp [e]
                        · cases h
    case agg.agg a b =>
      split at h
      · rename_i e; simp only [e, decide_true, Bool.true_and]; exact eqP_fold ih h hp
      · cases h
    case tuple.tuple a b =>
      split at h
      · rename_i e; simp only [e, decide_true, Bool.true_and]; exact eqP_fold ih h hp
      · cases h

/-- the readers of families, told at a region's end -/
def takeT : List (Nat × Hint) → List (Nat × Value) × List (Nat × Hint)
  | (n, x) :: l => match n, x with
    | 0, .t r v => ((r, v) :: (takeT l).1, (takeT l).2)
    | n, x => ([], (n, x) :: l)
  | [] => ([], [])

/-- one reader beside one act -/
def twice1 (dr : IDraw) (ops : List IOper) (d : DSt) (fam : List (Nat × Value)) (r e : Nat) : Option (List Prop) :=
  match ops[r]?, d.snaps.find? (fun s => s.1 == e) with
    | some o, some (_, before, after) =>
      if (match o.dst with | some t => decide (t < d.st.tmps.length) | none => false) then
        if wantedT d.st.tmps o.guard then
          match fam.find? (fun p => p.1 == r) with
          | some (_, v) => match hidLoad (evT d.st.tmps) o.op with
            | some b => optApp (some [OFF ≤ b, evalQ P (evT d.st.tmps) (twiceHeap d (maskOf dr.masks r) r e before after).hid o.op = some v]) (eqP 8 v (match o.dst with | some t => d.st.tmps.getD t undef | none => undef))
            | none => none
          | none => match evalQ P (evT d.st.tmps) (twiceHeap d (maskOf dr.masks r) r e before after).get o.op with
            | some v => eqP 8 v (match o.dst with | some t => d.st.tmps.getD t undef | none => undef)
            | none => none
        else some []
      else none
    | some o, none => some []
    | _, _ => none
def twiceH (dr : IDraw) (ops : List IOper) (d : DSt) (fam : List (Nat × Value)) : List (Nat × Nat) → Option (List Prop)
  | [] => some []
  | (r, e) :: l => optApp (twice1 P dr ops d fam r e) (twiceH dr ops d fam l)

def runRegionH (ops : List IOper) (dr : Option IDraw) (st : St) (s : HS) : Option (St × HS) :=
  match dr with
  | none => runOpsH P T callH ops st s
  | some dr => match runDH P T callH dr ops 0 ⟨st, [], []⟩ s with
    | some (d, s) => match twiceH P dr ops d (takeT s.hs).1 dr.twice with
      | some ps => some (d.st, ⟨(takeT s.hs).2, ps ++ s.cs⟩)
      | none => none
    | none => none

def execH : Nat → ICode → St → HS → Option (IEx × St × HS)
  | 0, _, _, _ => none
  | n + 1, c, st, s => match c with
    | .skip => some (.normal, st, s)
    | .bad => none
    | .region ops dr => match runRegionH P T callH ops dr st s with | some (st, s) => some (.normal, st, s) | none => none
    | .seq a b => match execH n a st s with
      | some (.normal, st', s') => execH n b st' s'
      | r => r
    | .cond c a b => match evT st.tmps c with
      | .bool t => execH n (if t then a else b) st s
      | _ => none
    | .block id b => match execH n b st s with
      | some (.exit i, st', s') => some (if i = id then .normal else .exit i, st', s')
      | r => r
    | .loop b => match execH n b st s with
      | some (.normal, st', s') => execH n (.loop b) st' s'
      | r => r
    | .exit id => some (.exit id, st, s)
    | .within b c => match execH n c st s with
      | some (.goto l, st', s') => match findI b l with
        | some rest => execH n (.within b rest) st' s'
        | none => some (.goto l, st', s')
      | r => r
    | .label _ => some (.normal, st, s)
    | .goto l => some (.goto l, st, s)
    | .ret => some (.ret, st, s)
end

def finishH (P : Program) (T : Tbl) (n : Nat) (fn : IFn) (st : St) (s : HS) : Option (Value × AH × HS) :=
  match finishFn P T (runFn P T n) n fn st with
  | some (v, h) => some (v, h, s)
  | none => none

def runFnH (P : Program) (T : Tbl) : Nat → CallH
  | 0, _, _, _, _ => none
  | n + 1, f, args, h, s => match T.fn f with
    | some fn => match execH P T (runFnH P T n) n fn.body ⟨startT args fn.ntmps, h, []⟩ s with
      | some (.normal, st, s) => finishH P T n fn st s
      | some (.ret, st, s) => finishH P T n fn st s
      | _ => none
    | none => match T.prim f args h with
      | some (v, h) => some (v, h, s)
      | none => none

section
variable {P : Program} {T : Tbl} {callH : CallH}

def SoundH (P : Program) (T : Tbl) (callH : CallH) : Prop :=
  ∀ f args h s v h' s', callH f args h s = some (v, h', s') → AllP s'.cs → AllP s.cs ∧ lim P T f args h = some (v, h')

theorem actH_ok (hc : SoundH P T callH) {ev : Operand → Value} {h h' : AH} {s s' : HS} {op : IOp} {v : Value} (k : actH callH ev h s op = some (v, h', s')) (hp : AllP s'.cs) :
    AllP s.cs ∧ act P (lim P T) ev h op = some (v, h') := by
  unfold actH at k
  unfold act
  split at k
  · rename_i e1
    rw [e1]
    exact hc _ _ _ _ _ _ _ k hp
  · rename_i e1
    rw [e1]
    split at k
    · rename_i e; cases k; exact ⟨hp, e⟩
    · cases k

theorem stepOpH_ok (hc : SoundH P T callH) {st st' : St} {s s' : HS} {o : IOper} (k : stepOpH P T callH st s o = some (st', s')) (hp : AllP s'.cs) :
    AllP s.cs ∧ stepOp P (lim P T) st o = some st' := by
  unfold stepOpH at k
  unfold stepOp
  have hn := HS.next_cs s
  by_cases hw : wantedT st.tmps o.guard = true
  · simp only [hw, if_true] at k ⊢
    split at k
    · rename_i x s1 e1
      rw [e1] at hn
      simp only at hn
      split at k
      · rename_i v e2
        cases k
        rw [← hn, e2]
        refine ⟨hp.2, ?_⟩
        simp only [hp.1]
      · rename_i v e2
        split at k
        · rename_i b e5
          cases k
          rw [← hn, e2]
          refine ⟨hp.2.2, ?_⟩
          simp only [hidLoad_ok e5 hp.1, hp.2.1]
        · cases k
      · rename_i cs elem mk e2
        cases k
        rw [← hn, e2]
        refine ⟨hp.2, ?_⟩
        simp only [hp.1]
      · rename_i v h e2
        cases k
        rw [← hn, e2]
        refine ⟨hp.2, ?_⟩
        simp only [hp.1]
      · cases k
    · rename_i s1 e1
      rw [e1] at hn
      simp only at hn
      rw [← hn]
      split at k
      · rename_i e2
        split at k
        · rename_i e3; cases k; refine ⟨hp, ?_⟩; simp only [e2, e3]
        · cases k
      · rename_i e2
        split at k
        · rename_i e3; cases k; refine ⟨hp, ?_⟩; simp only [e2, e3]
        · cases k
      · rename_i e2
        split at k
        · rename_i e3
          cases k
          obtain ⟨h1, h2⟩ := actH_ok hc e3 hp
          refine ⟨h1, ?_⟩
          simp only [e2, h2]
        · cases k
      · rename_i n0 n1 n2 e2
        split at k
        · rename_i e3; cases k; refine ⟨hp, ?_⟩; split <;> first | (exfalso; exact n0 ‹_›) | (exfalso; exact n1 ‹_›) | (exfalso; exact n2 ‹_›) | (exfalso; exact e2 ‹_›) | simp only [e3]
        · cases k
  · simp only [hw] at k ⊢
    cases k; exact ⟨hp, rfl⟩

theorem runOpsH_ok (hc : SoundH P T callH) : ∀ {l : List IOper} {st st' : St} {s s' : HS}, runOpsH P T callH l st s = some (st', s') → AllP s'.cs → AllP s.cs ∧ runOps P (lim P T) l st = some st'
  | [], st, st', s, s', k, hp => by simp only [runOpsH] at k; cases k; exact ⟨hp, rfl⟩
  | o :: l, st, st', s, s', k, hp => by
    simp only [runOpsH] at k
    split at k
    · rename_i e
      obtain ⟨h1, h2⟩ := runOpsH_ok hc k hp
      obtain ⟨h3, h4⟩ := stepOpH_ok hc e h1
      refine ⟨h3, ?_⟩
      simp only [runOps, h4, h2]
    · cases k

theorem stepDH_ok (hc : SoundH P T callH) {dr : IDraw} {d d' : DSt} {s s' : HS} {j : Nat} {o : IOper} (k : stepDH P T callH dr d s j o = some (d', s')) (hp : AllP s'.cs) :
    AllP s.cs ∧ stepD P (lim P T) dr d j o = some d' := by
  unfold stepDH at k
  unfold stepD
  have hn := HS.next_cs s
  simp only at k ⊢
  by_cases hw : wantedT d.st.tmps o.guard = true
  · simp only [hw, if_true] at k ⊢
    split at k
    · rename_i x s1 e1
      rw [e1] at hn
      simp only at hn
      split at k
      · rename_i v e2
        cases k
        rw [← hn, e2]
        refine ⟨hp.2, ?_⟩
        simp only [hp.1]
      · rename_i v e2
        split at k
        · rename_i b e5
          cases k
          rw [← hn, e2]
          refine ⟨hp.2.2, ?_⟩
          simp only [hidLoad_ok e5 hp.1, hp.2.1]
        · cases k
      · rename_i cs elem mk e2
        cases k
        rw [← hn, e2]
        refine ⟨hp.2, ?_⟩
        simp only [hp.1]
      · rename_i v h e2
        cases k
        rw [← hn, e2]
        refine ⟨hp.2, ?_⟩
        simp only [hp.1]
      · cases k
    · rename_i s1 e1
      rw [e1] at hn
      simp only at hn
      rw [← hn]
      split at k
      · rename_i e2
        split at k
        · rename_i e3; cases k; refine ⟨hp, ?_⟩; simp only [e2, e3]
        · cases k
      · rename_i e2
        split at k
        · rename_i e3; cases k; refine ⟨hp, ?_⟩; simp only [e2, e3]
        · cases k
      · rename_i e2
        split at k
        · rename_i e3
          cases k
          obtain ⟨h1, h2⟩ := actH_ok hc e3 hp
          refine ⟨h1, ?_⟩
          simp only [e2, h2]
        · cases k
      · rename_i n0 n1 n2 e2
        cases k
  · simp only [hw] at k ⊢
    cases k; exact ⟨hp, rfl⟩

theorem runDH_ok (hc : SoundH P T callH) {dr : IDraw} : ∀ {l : List IOper} {j : Nat} {d d' : DSt} {s s' : HS}, runDH P T callH dr l j d s = some (d', s') → AllP s'.cs → AllP s.cs ∧ runD P (lim P T) dr l j d = some d'
  | [], j, d, d', s, s', k, hp => by simp only [runDH] at k; cases k; exact ⟨hp, rfl⟩
  | o :: l, j, d, d', s, s', k, hp => by
    simp only [runDH] at k
    split at k
    · rename_i e
      obtain ⟨h1, h2⟩ := runDH_ok hc k hp
      obtain ⟨h3, h4⟩ := stepDH_ok hc e h1
      refine ⟨h3, ?_⟩
      simp only [runD, h4, h2]
    · cases k

theorem twice1_ok {dr : IDraw} {ops : List IOper} {d : DSt} {fam : List (Nat × Value)} {r e : Nat} {ps : List Prop} (ha : twice1 P dr ops d fam r e = some ps) (h1 : AllP ps) :
    (match ops[r]?, d.snaps.find? (fun s => s.1 == e) with
    | some o, some (_, before, after) =>
      (match o.dst with | some t => decide (t < d.st.tmps.length) | none => false) &&
      if wantedT d.st.tmps o.guard then
        match evalQ P (evT d.st.tmps) (twiceHeap d (maskOf dr.masks r) r e before after).get o.op with
        | some v => eqV 8 v (match o.dst with | some t => d.st.tmps.getD t undef | none => undef)
        | none => false
      else true
    | some o, none => true
    | _, _ => false) = true := by
  unfold twice1 at ha
  split at ha
  · rename_i o fst before after e1 e2
    (try simp only [e1, e2])
    cases e3 : o.dst with
    | none => rw [e3] at ha; simp at ha
    | some t =>
      rw [e3] at ha
      simp only at ha ⊢
      split at ha
      · rename_i e5
        rw [e5, Bool.true_and]
        split at ha
        · rename_i e4
          rw [if_pos e4]
          split at ha
          · split at ha
            · rename_i _ fs v _ _ b e7
              cases e8 : eqP 8 v (d.st.tmps.getD t undef) with
              | none => rw [e8] at ha; simp [optApp] at ha
              | some qs =>
                rw [e8] at ha
                simp only [optApp, Option.some.injEq] at ha
                subst ha
                have h2 := AllP.append (a := [_, _]) h1
                rw [hidLoad_ok e7 h2.1.1, h2.1.2.1]
                exact eqP_ok 8 _ _ _ e8 h2.2
            · cases ha
          · split at ha
            · rename_i e6; (try rw [e6]); exact eqP_ok 8 _ _ _ ha h1
            · cases ha
        · rename_i e4
          rw [if_neg e4]
      · cases ha
  · rename_i o e1 e2
    (first | rfl | simp only [e1, e2])
  · cases ha

theorem twiceH_ok {dr : IDraw} {ops : List IOper} {d : DSt} {fam : List (Nat × Value)} : ∀ {l : List (Nat × Nat)} {ps : List Prop}, twiceH P dr ops d fam l = some ps → AllP ps →
    (l.all fun (r, e) =>
    match ops[r]?, d.snaps.find? (fun s => s.1 == e) with
    | some o, some (_, before, after) =>
      (match o.dst with | some t => decide (t < d.st.tmps.length) | none => false) &&
      if wantedT d.st.tmps o.guard then
        match evalQ P (evT d.st.tmps) (twiceHeap d (maskOf dr.masks r) r e before after).get o.op with
        | some v => eqV 8 v (match o.dst with | some t => d.st.tmps.getD t undef | none => undef)
        | none => false
      else true
    | some o, none => true
    | _, _ => false) = true
  | [], ps, h, hp => rfl
  | (r, e) :: l, ps, h, hp => by
    simp only [twiceH] at h
    cases ha : twice1 P dr ops d fam r e with
    | none => rw [ha] at h; simp [optApp] at h
    | some a =>
      cases hb : twiceH P dr ops d fam l with
      | none => rw [hb] at h; simp [ha, optApp] at h
      | some b =>
        rw [ha, hb] at h
        simp only [optApp, Option.some.injEq] at h
        subst h
        obtain ⟨h1, h2⟩ := AllP.append hp
        simp only [List.all_cons, Bool.and_eq_true]
        exact ⟨twice1_ok ha h1, twiceH_ok hb h2⟩

theorem runRegionH_ok (hc : SoundH P T callH) {ops : List IOper} {dr : Option IDraw} {st st' : St} {s s' : HS} (k : runRegionH P T callH ops dr st s = some (st', s')) (hp : AllP s'.cs) :
    AllP s.cs ∧ runRegion P (lim P T) ops dr st = some st' := by
  unfold runRegionH at k
  unfold runRegion
  split at k
  · exact runOpsH_ok hc k hp
  · rename_i dr
    simp only
    split at k
    · rename_i d s1 e1
      split at k
      · rename_i ps e2
        cases k
        obtain ⟨h1, h2⟩ := AllP.append hp
        obtain ⟨h3, h4⟩ := runDH_ok hc e1 h2
        refine ⟨h3, ?_⟩
        have ht : twiceOk P dr ops d = true := by unfold twiceOk; exact twiceH_ok e2 h1
        simp only [h4, ht, if_true]
      · cases k
    · cases k

theorem execH_ok (hc : SoundH P T callH) : ∀ (n : Nat) {c : ICode} {st st' : St} {s s' : HS} {e : IEx}, execH P T callH n c st s = some (e, st', s') → AllP s'.cs → AllP s.cs ∧ exec P (lim P T) n c st = some (e, st')
  | 0, c, st, st', s, s', e, k, hp => by simp [execH] at k
  | n + 1, c, st, st', s, s', e, k, hp => by
    have ih := fun {c : ICode} {st st' : St} {s s' : HS} {e : IEx} => execH_ok hc n (c := c) (st := st) (st' := st') (s := s) (s' := s') (e := e)
    cases c <;> simp only [execH] at k <;> simp only [exec]
    case skip => cases k; exact ⟨hp, rfl⟩
    case bad => cases k
    case region ops dr =>
      split at k
      · rename_i e1
        cases k
        obtain ⟨h1, h2⟩ := runRegionH_ok hc e1 hp
        exact ⟨h1, by rw [h2]; rfl⟩
      · cases k
    case seq a b =>
      split at k
      · rename_i e1
        obtain ⟨h1, h2⟩ := ih k hp
        obtain ⟨h3, h4⟩ := ih e1 h1
        exact ⟨h3, by rw [h4]; exact h2⟩
      · rename_i hne
        obtain ⟨h1, h2⟩ := ih k hp
        refine ⟨h1, ?_⟩
        rw [h2]
        cases e with
        | normal => exact absurd k (hne _ _)
        | _ => rfl
    case cond c a b =>
      split at k
      · rename_i t e1
        obtain ⟨h1, h2⟩ := ih k hp
        exact ⟨h1, by rw [e1]; exact h2⟩
      · cases k
    case block id b =>
      split at k
      · rename_i e1
        simp only [Option.some.injEq, Prod.mk.injEq] at k
        obtain ⟨rfl, rfl, rfl⟩ := k
        obtain ⟨h1, h2⟩ := ih e1 hp
        exact ⟨h1, by rw [h2]⟩
      · rename_i hne
        obtain ⟨h1, h2⟩ := ih k hp
        refine ⟨h1, ?_⟩
        rw [h2]
        cases e with
        | exit i => exact absurd k (hne _ _ _)
        | _ => rfl
    case loop b =>
      split at k
      · rename_i e1
        obtain ⟨h1, h2⟩ := ih k hp
        obtain ⟨h3, h4⟩ := ih e1 h1
        exact ⟨h3, by rw [h4]; exact h2⟩
      · rename_i hne
        obtain ⟨h1, h2⟩ := ih k hp
        refine ⟨h1, ?_⟩
        rw [h2]
        cases e with
        | normal => exact absurd k (hne _ _)
        | _ => rfl
    case exit id => cases k; exact ⟨hp, rfl⟩
    case within b c =>
      split at k
      · rename_i e1
        split at k
        · rename_i e2
          obtain ⟨h1, h2⟩ := ih k hp
          obtain ⟨h3, h4⟩ := ih e1 h1
          refine ⟨h3, ?_⟩
          rw [h4]
          simp only [e2]
          exact h2
        · rename_i e2
          cases k
          obtain ⟨h3, h4⟩ := ih e1 hp
          refine ⟨h3, ?_⟩
          rw [h4]
          simp only [e2]
      · rename_i hne
        obtain ⟨h1, h2⟩ := ih k hp
        refine ⟨h1, ?_⟩
        rw [h2]
        cases e with
        | goto i => exact absurd k (hne _ _ _)
        | _ => rfl
    case label l => cases k; exact ⟨hp, rfl⟩
    case goto l => cases k; exact ⟨hp, rfl⟩
    case ret => cases k; exact ⟨hp, rfl⟩

theorem runFn_lim (n : Nat) : CallLe (runFn P T n) (lim P T) := fun f args h r k => lim_of ⟨n, k⟩

theorem runFnH_ok : ∀ n, SoundH P T (runFnH P T n)
  | 0 => fun f args h s v h' s' k hp => by simp [runFnH] at k
  | n + 1 => fun f args h s v h' s' k hp => by
    have ih := runFnH_ok n
    simp only [runFnH] at k
    split at k
    · rename_i fn hfn
      have fin : ∀ (x : IEx) (st : St) (s1 : HS), (x = .normal ∨ x = .ret) → execH P T (runFnH P T n) n fn.body ⟨startT args fn.ntmps, h, []⟩ s = some (x, st, s1) → finishH P T n fn st s1 = some (v, h', s') →
          AllP s.cs ∧ lim P T f args h = some (v, h') := by
        intro x st s1 hx h1 h2
        unfold finishH at h2
        split at h2
        · rename_i e2
          cases h2
          obtain ⟨h3, h4⟩ := execH_ok ih n h1 hp
          refine ⟨h3, lim_of (Ev.intro lim_ev (n := n) ?_)⟩
          unfold bodyF
          simp only [hfn, h4]
          rcases hx with rfl | rfl <;> exact finishFn_le (runFn_lim n) (Nat.le_refl _) e2
        · cases h2
      split at k
      · rename_i e1; exact fin .normal _ _ (.inl rfl) e1 k
      · rename_i e1; exact fin .ret _ _ (.inr rfl) e1 k
      · cases k
    · rename_i hfn
      split at k
      · rename_i e1
        cases k
        refine ⟨hp, lim_of ⟨1, ?_⟩⟩
        simp only [runFn, hfn]
        exact e1
      · cases k

/-- a call over open values -/
theorem Ev.ofH {n : Nat} {f : FuncId} {args : List Value} {h h' : AH} {v : Value} {hs : List (Nat × Hint)} {cs : List Prop} (k : runFnH P T n f args h ⟨hs, []⟩ = some (v, h', ⟨[], cs⟩)) (hp : AllP cs) : Ev P T f args h (v, h') :=
  lim_ev _ _ _ _ (runFnH_ok n f args h _ v h' _ k hp).2
/-- code over open values -/
theorem Ex.ofH {n m : Nat} {c : ICode} {st st' : St} {hs : List (Nat × Hint)} {cs : List Prop} {e : IEx} (k : execH P T (runFnH P T m) n c st ⟨hs, []⟩ = some (e, st', ⟨[], cs⟩)) (hp : AllP cs) : Ex P T c st (e, st') :=
  ⟨n, (execH_ok (runFnH_ok m) n k hp).2⟩
end
end Go.Am
