import Derived.Test.YtikphefllmemjaaGreatDoorAm20
import Derived.Lib.ReflectliteSwap
import Derived.Laws.Externs
/-
The engine, part 21: the functions without a body that sort.Slice calls: ValueOf, Swapper, (Value).Len and the swapper's own literal.
-/
namespace Go.Am
open Go Go.Extern Go.Extern.Rtype
set_option linter.unusedVariables false
set_option linter.unusedSimpArgs false

/-- one slice type: itself, its element, the element's size, the number of the literal at two or more elements. -/
structure STy where
  t : TypeId
  e : TypeId
  size : Nat
  sw : FuncId

structure Prims where
  G : Nat
  vo : FuncId
  sw : FuncId
  len : FuncId
  s1 : FuncId
  s2 : FuncId
  tys : List STy
  ne : Option FuncId := none
  ib : Option FuncId := none

def handleV (G t : Nat) : Value := .pointer (some ⟨G, t, none⟩)
def Prims.ty (p : Prims) (t : TypeId) : Option STy := p.tys.find? (fun x => x.t == t)
def Prims.el (p : Prims) (f : FuncId) (e : TypeId) : Option STy := p.tys.find? (fun x => x.e == e && x.sw == f)

def swapEv (b o : Nat) (v : Value) : Operand → Value
  | .tmp 0 => .pointer (some ⟨b, o, none⟩)
  | _ => v

def swapA (h : AH) (b o size i j : Nat) : Option AH :=
  match cellsIn h.get b (o + i * size) size, cellsIn h.get b (o + j * size) size with
  | some X, some Y => match evalE (swapEv b (o + i * size) (.agg ⟨Y⟩)) h (.store size (.tmp 0) (.tmp 1)) with
    | some (_, h1) => match evalE (swapEv b (o + j * size) (.agg ⟨X⟩)) h1 (.store size (.tmp 0) (.tmp 1)) with
      | some (_, h2) => some h2
      | none => none
    | none => none
  | _, _ => none

/-- the first place of a byte -/
def ibV (s : ByteArray) (c : Int) : Int :=
  match (List.range s.size).find? fun i => s[i]! == c.toNat.toUInt8 with
  | some i => (i : Int)
  | none => -1

def primF (p : Prims) : CallF := fun f args h =>
  if p.ib = some f then
    match args with
    | [.string s, .int .u8 c] => some (.int .i64 (ibV s c), h)
    | _ => none
  else if p.ne = some f then
    match args with
    | [v] => some (v, h)
    | _ => none
  else if f = p.vo then
    match args with
    | [.iface t (.slice (some ⟨b, o, none⟩) n c)] => match p.ty t with
      | some s => some (.agg ⟨[handleV p.G t, .pointer (some ⟨h.next, 0, none⟩), .int .u64 151]⟩, h.add (.cells [.slice (some ⟨b, o, none⟩) n c] t none 0))
      | none => none
    | [.iface t (.slice none n c)] => match p.ty t with
      | some s => some (.agg ⟨[handleV p.G t, .pointer (some ⟨h.next, 0, none⟩), .int .u64 151]⟩, h.add (.cells [.slice none n c] t none 0))
      | none => none
    | _ => none
  else if f = p.len then
    match args with
    | [.agg ⟨[.pointer (some ⟨g, t, none⟩), .pointer (some ⟨b, o, none⟩), .int .u64 151]⟩] =>
      if g = p.G then
        match p.ty t, cellsIn h.get b o 1 with
        | some s, some [.slice _ n c] => some (.int .i64 n, h)
        | _, _ => none
      else none
    | _ => none
  else if f = p.sw then
    match args with
    | [.iface t (.slice a n c)] => match p.ty t with
      | some s => if n = 0 then some (.func (.func p.s1) ⟨[]⟩ ⟨[]⟩, h) else if n = 1 then some (.func (.func p.s2) ⟨[]⟩ ⟨[]⟩, h) else some (.func (.func s.sw) ⟨[]⟩ ⟨[.slice a n c, handleV p.G s.e]⟩, h)
      | none => none
    | _ => none
  else
    match args with
    | [.int .i64 i, .int .i64 j, .slice (some ⟨b, o, none⟩) n c, .pointer (some ⟨g, e, none⟩)] =>
      if g = p.G ∧ 0 ≤ i ∧ i < n ∧ 0 ≤ j ∧ j < n then
        match p.el f e with
        | some s => match swapA h b o s.size i.toNat j.toNat with
          | some h' => some (.tuple #[], h')
          | none => none
        | none => none
      else none
    | _ => none

/-- what the program must say -/
structure PrimsOk (P : Program) (p : Prims) : Prop where
  glob : P.globals.size = p.G
  fixed : p.G < fixN
  ext : ∀ f s, (f = p.vo ∧ s = "internal/reflectlite.ValueOf") ∨ (f = p.len ∧ s = "(internal/reflectlite.Value).Len") ∨ (f = p.sw ∧ s = "internal/reflectlite.Swapper") →
    ∃ fn, P.funcs[f]? = some fn ∧ (fn.name == "runtime.NumGoroutine") = false ∧ fn.body.isNone = true ∧ Extern.findNext fn = none ∧
      Extern.find fn = (if s = "internal/reflectlite.ValueOf" then some (fun args => ReflectliteValue.unpack (args.getD 0 (.tuple #[]))) else if s = "(internal/reflectlite.Value).Len" then some (ReflectliteValue.method (ReflectliteValue.valueError "reflectlite.Value.Len" 0) ReflectliteValue.len)
        else some (ReflectliteSwapper.swapper "internal/reflectlite" (ReflectliteValue.valueError "Swapper")))
  ty : ∀ s ∈ p.tys, ∃ i ie ke, P.info? s.t = some i ∧ i.desc = .slice s.e ∧ P.packed s.t = false ∧ P.info? s.e = some ie ∧ ie.size = s.size ∧ (∀ w, (kind s.e).run P w = .ok ke w) ∧ (∀ w, (isAgg s.e).run P w = .ok true w) ∧
    P.funcs.findIdx? (·.name == "internal/reflectlite" ++ ".Swapper$" ++ toString (Lib.swapperK 0 ie ke)) = some p.s1 ∧ P.funcs.findIdx? (·.name == "internal/reflectlite" ++ ".Swapper$" ++ toString (Lib.swapperK 1 ie ke)) = some p.s2 ∧
    P.funcs.findIdx? (·.name == "internal/reflectlite" ++ ".Swapper$" ++ toString (Lib.swapperK 2 ie ke)) = some s.sw ∧ 2 < Lib.swapperK 2 ie ke
  ne : ∀ f, p.ne = some f → ∃ fn, P.funcs[f]? = some fn ∧ (fn.name == "runtime.NumGoroutine") = false ∧ fn.body.isNone = true ∧ Extern.findNext fn = none ∧ Extern.find fn = some AbiNoEscape.same
  ib : ∀ f, p.ib = some f → ∃ fn, P.funcs[f]? = some fn ∧ (fn.name == "runtime.NumGoroutine") = false ∧ fn.body.isNone = true ∧ Extern.findNext fn = none ∧ Extern.find fn = some Extern.BytealgIndexByte.indexByte
  swf : ∀ s ∈ p.tys, ∃ fn g, P.funcs[s.sw]? = some fn ∧ (fn.name == "runtime.NumGoroutine") = false ∧ fn.body.isNone = true ∧ Extern.findNext fn = none ∧ Extern.find fn = some (ReflectliteSwapper.swap g)

section
variable {P : Program} {p : Prims} {ρ : Ren} {w : World}

theorem swapperK_two {n : Nat} (h0 : n ≠ 0) (h1 : n ≠ 1) (ie : TypeInfo) (ke : Nat) : Lib.swapperK n ie ke = Lib.swapperK 2 ie ke := by
  unfold Lib.swapperK
  simp [h0, h1]

theorem Prims.ty_mem {t : TypeId} {s : STy} (h : p.ty t = some s) : s ∈ p.tys ∧ s.t = t := by
  unfold Prims.ty at h
  exact ⟨List.mem_of_find?_eq_some h, by have := List.find?_some h; simpa using this⟩
theorem Prims.el_mem {f : FuncId} {e : TypeId} {s : STy} (h : p.el f e = some s) : s ∈ p.tys ∧ s.e = e ∧ s.sw = f := by
  unfold Prims.el at h
  have := List.find?_some h
  simp only [Bool.and_eq_true, beq_iff_eq] at this
  exact ⟨List.mem_of_find?_eq_some h, this⟩

theorem primF_mono : CallMono (primF p) := by
  have hput : ∀ {h h' : AH} {n : Nat} {a x : Operand} {ev : Operand → Value} {v : Value}, evalE ev h (.store n a x) = some (v, h') → HN h h' := by
    intro h h' n a x ev v k
    exact evalE_next k
  intro f args h v h' k
  unfold primF at k
  repeat' (first | split at k)
  all_goals (try (cases k; done))
  all_goals (try (simp only [Option.some.injEq, Prod.mk.injEq] at k; obtain ⟨rfl, rfl⟩ := k))
  · exact HN.refl _
  · exact HN.refl _
  · exact HN.add _ _
  · exact HN.add _ _
  · exact HN.refl _
  · exact HN.refl _
  · exact HN.refl _
  · exact HN.refl _
  · rename_i hsw
    unfold swapA at hsw
    split at hsw <;> try (cases hsw; done)
    split at hsw <;> try (cases hsw; done)
    rename_i h1 e1
    split at hsw <;> try (cases hsw; done)
    rename_i h2 e2
    cases hsw
    exact HN.trans (hput e1) (hput e2)

theorem storeAt_run {e : TypeId} {a : Addr} {v : Value} {P : Program} {w : World} : (Instr.storeAt e (.pointer (some a)) v).run P w = (storeVar e a v).run P w := by
  simp [Instr.storeAt, Instr.sureAddr]

theorem prim_swap (gs : Bool) (hk : PrimsOk P p) {s : STy} (hs : s ∈ p.tys) {h h' : AH} (hS : Sim ρ h.get w) {b o r x n c : Nat} (hb : ρ b = some (r, x)) {i j : Nat} (hi : i < n) (hj : j < n)
    (k : swapA h b o s.size i j = some h') :
    ∃ w', (ReflectliteSwapper.swap gs #[.int .i64 i, .int .i64 j, .slice (some ⟨r, o, none⟩) n c, typeHandle P s.e]).run P w = .ok (.tuple #[]) w' ∧ Acted ρ h w (.tuple #[]) h' (.tuple #[]) w' ρ := by
  obtain ⟨_, ie, ke, _, _, _, hie, hsz, _, hagg, _⟩ := hk.ty s hs
  have hsize : ∀ w, (sizeOf s.e).run P w = .ok s.size w := fun w => by simp [sizeOf, Lib.rl_info s.e ie hie, hsz, Result.andThen]
  have hcs : cSize P s.e = some s.size := by simp [cSize, hie, hsz]
  unfold swapA at k
  split at k <;> try (cases k; done)
  rename_i X Y hX hY
  split at k <;> try (cases k; done)
  rename_i u1 h1 e1
  split at k <;> try (cases k; done)
  rename_i u2 h2 e2
  cases k
  obtain ⟨X', x1, x2, x3⟩ := hS.row hb hX
  obtain ⟨Y', y1, y2, y3⟩ := hS.row hb hY
  obtain ⟨w1, m1, _, A1⟩ := store_sound (P := P) (w := w) (ev := swapEv b (o + i * s.size) (.agg ⟨Y⟩)) (ea := swapEv r (o + i * s.size) (.agg ⟨Y'⟩)) hS s.size s.e hcs (.tmp 0) (.tmp 1) (.ptr hb) (Rv.agg' y1) e1
  obtain ⟨w2, m2, _, A2⟩ := store_sound (P := P) (w := w1) (ev := swapEv b (o + j * s.size) (.agg ⟨X⟩)) (ea := swapEv r (o + j * s.size) (.agg ⟨X'⟩)) A1.sim s.size s.e hcs (.tmp 0) (.tmp 1) (.ptr hb) (Rv.agg' x1) e2
  simp only [swapEv, storeAt_run] at m1 m2
  refine ⟨w2, ?_, ⟨Rv.undef, A2.sim, A1.ext.trans A2.ext, AH.le_trans A1.next A2.next, fun _ _ => rfl⟩⟩
  have l1 : (loadVar s.e ⟨r, o + i * s.size, none⟩).run P w = .ok (.agg ⟨X'⟩) w := by
    simp [loadVar, hagg, hsize, run_row x2 x3]
  have l2 : (loadVar s.e ⟨r, o + j * s.size, none⟩).run P w = .ok (.agg ⟨Y'⟩) w := by
    simp [loadVar, hagg, hsize, run_row y2 y3]
  have i0 : ¬ ((i : Int) < 0) := by omega
  have i1 : ¬ ((i : Int) ≥ n) := by omega
  have j0 : ¬ ((j : Int) < 0) := by omega
  have j1 : ¬ ((j : Int) ≥ n) := by omega
  rw [Lib.rl_swap]
  cases gs <;> simp [i0, i1, j0, j1, ofHandle, handleType, typeHandle, ReflectliteSwapper.exchange, hsize, add_off, l1, l2, m1, m2, Result.andThen]

theorem handle_rel (hk : PrimsOk P p) {g : VH} (hS : Sim ρ g w) (t : Nat) : Rv ρ (handleV p.G t) (typeHandle P t) := by
  unfold handleV typeHandle
  rw [hk.glob]
  exact .ptr (hS.fix _ hk.fixed)
theorem handle_inv (hk : PrimsOk P p) {g : VH} (hS : Sim ρ g w) {e : Nat} {v : Value} (h : Rv ρ (.pointer (some ⟨p.G, e, none⟩)) v) : v = typeHandle P e := by
  cases h with
  | ptr hb =>
    rw [hS.fix _ hk.fixed] at hb
    cases hb
    unfold typeHandle
    rw [hk.glob]

theorem primF_sound (hk : PrimsOk P p) : CallSound P (primF p) := by
  intro f args h v h' k ρ w args' hargs hS hf
  unfold primF at k
  split at k
  · rename_i hib
    obtain ⟨fn, q1, q2, q3, q4, q5⟩ := hk.ib f hib
    split at k
    case h_2 => cases k
    rename_i s c
    cases k
    obtain ⟨v1, r1, rfl, hv, hr⟩ := hargs.cons_inv
    obtain ⟨v2, r2, rfl, hv2, hr2⟩ := hr.cons_inv
    obtain rfl := hr2.nil_inv
    have e1 : v1 = .string s := by cases hv; rfl
    have e2 : v2 = .int .u8 c := by cases hv2; rfl
    subst e1 e2
    refine .inr ⟨.int .i64 (ibV s c), w, ?_, ρ, ⟨.int _ _, hS, Ext.refl _ _ _, (by first | exact AH.le_put _ _ _ | exact AH.le_refl _), fun _ _ => rfl⟩⟩
    rw [run_callFunc_extern q1 q2 q3 q4 q5]
    have : (Extern.BytealgIndexByte.indexByte ⟨[.string s, .int .u8 c]⟩).run P w = .ok (.int .i64 (ibV s c)) w := by
      have e0 : Extern.BytealgIndexByte.indexByte ⟨[.string s, .int .u8 c]⟩ = (match (List.range s.size).find? fun i => s[i]! == c.toNat.toUInt8 with
        | some i => (pure (.int .i64 i) : Sem Value)
        | none => pure (.int .i64 (-1))) := rfl
      rw [e0]
      unfold ibV
      generalize (List.range s.size).find? (fun i => s[i]! == c.toNat.toUInt8) = z
      cases z <;> rfl
    rw [this]
    rfl
  split at k
  · rename_i hne
    obtain ⟨fn, q1, q2, q3, q4, q5⟩ := hk.ne f hne
    split at k
    case h_2 => cases k
    rename_i u
    cases k
    obtain ⟨v1, r1, rfl, hv, hr⟩ := hargs.cons_inv
    obtain rfl := hr.nil_inv
    refine .inr ⟨v1, w, ?_, ρ, ⟨hv, hS, Ext.refl _ _ _, (by first | exact AH.le_put _ _ _ | exact AH.le_refl _), fun _ _ => rfl⟩⟩
    rw [run_callFunc_extern q1 q2 q3 q4 q5]
    change ((AbiNoEscape.same #[v1]).run P w).andThen _ = _
    rfl
  split at k
  · rename_i _ hfv
    obtain ⟨fn, q1, q2, q3, q4, q5⟩ := hk.ext f "internal/reflectlite.ValueOf" (.inl ⟨hfv, rfl⟩)
    rw [if_pos rfl] at q5
    have hrun : ∀ (a : Array Value), (callFunc f a).run P w = ((ReflectliteValue.unpack (a.getD 0 (.tuple #[]))).run P w).andThen fun v w => .ok (.value v) w := fun a => by
      rw [run_callFunc_extern q1 q2 q3 q4 q5]
    have fin : ∀ (t : TypeId) (s : STy) (sl sl' : Value) (pp : Option Addr) (n c : Nat), sl' = .slice pp n c → Rv ρ sl sl' → p.ty t = some s → args' = [.iface t sl'] → ρ h.next = none →
        CallOk P f args' w fun v' w' => ∃ ρ', Acted ρ h w (.agg ⟨[handleV p.G t, .pointer (some ⟨h.next, 0, none⟩), .int .u64 151]⟩) (h.add (.cells [sl] t none 0)) v' w' ρ' := by
      intro t s sl sl' pp n c e hr ht ha hN
      subst e ha
      obtain ⟨hm, rfl⟩ := Prims.ty_mem ht
      obtain ⟨i, ie, ke, k1, k2, k3, _⟩ := hk.ty s hm
      have hle := Ren.le_with (p := (w.heap.size, 0)) hN
      obtain ⟨s1, s2⟩ := hS.add (x := 0) (o := .cells [sl] s.t none 0) (o' := .cells #[.slice pp n c] s.t) (w' := w.alloc (.cells #[.slice pp n c] s.t)) hN rfl rfl rfl (RObj.new (Rvs.cons (hr.mono hle) Rvs.nil) s.t)
      refine .inr ⟨.agg #[typeHandle P s.t, .pointer (some ⟨w.heap.size, 0, none⟩), .int .u64 151], w.alloc (.cells #[.slice pp n c] s.t), ?_, ρ.with h.next (w.heap.size, 0), ⟨?_, ?_, ?_, AH.le_add _ _, fun b hb => ?_⟩⟩
      · rw [hrun]
        have : (⟨[Value.iface s.t (.slice pp n c)]⟩ : Array Value).getD 0 (.tuple #[]) = .iface s.t (.slice pp n c) := rfl
        rw [this, Lib.run_valueOf_slice s.t s.e i k1 k2 pp n c w]
        rfl
      · exact Rv.agg' (.cons ((handle_rel hk hS s.t).mono hle) (.cons (.ptr Ren.with_same) (.cons (.int _ _) .nil)))
      · rw [get_add_eq]; exact s1
      · rw [get_add_eq]; exact s2
      · unfold Ren.with
        rw [if_neg (fun e => hb (isNew_add.2 e))]
    split at k
    · rename_i t b o n c
      split at k
      case h_2 => cases k
      rename_i s ht
      cases k
      obtain ⟨v1, r1, rfl, hv, hr⟩ := hargs.cons_inv
      obtain rfl := hr.nil_inv
      cases hv with
      | iface _ hv =>
        cases hv with
        | slice hb => exact fin t s _ _ _ _ _ rfl (.slice hb) ht rfl (hf.2 _ (isNew_add.2 rfl))
    · rename_i t n c
      split at k
      case h_2 => cases k
      rename_i s ht
      cases k
      obtain ⟨v1, r1, rfl, hv, hr⟩ := hargs.cons_inv
      obtain rfl := hr.nil_inv
      cases hv with
      | iface _ hv =>
        cases hv with
        | sliceNil => exact fin t s _ _ _ _ _ rfl (.sliceNil n c) ht rfl (hf.2 _ (isNew_add.2 rfl))
    · cases k
  split at k
  · rename_i _ _ hfl
    obtain ⟨fn, q1, q2, q3, q4, q5⟩ := hk.ext f "(internal/reflectlite.Value).Len" (.inr (.inl ⟨hfl, rfl⟩))
    rw [if_neg (by decide), if_pos rfl] at q5
    split at k
    case h_2 => cases k
    rename_i g t b o
    split at k
    case isFalse => cases k
    rename_i hg
    subst hg
    split at k
    case h_2 => cases k
    rename_i s sp n c ht hc
    cases k
    obtain ⟨hm, rfl⟩ := Prims.ty_mem ht
    obtain ⟨i, ie, ke, k1, k2, k3, _⟩ := hk.ty s hm
    obtain ⟨v1, r1, rfl, hv, hr⟩ := hargs.cons_inv
    obtain rfl := hr.nil_inv
    obtain ⟨a', rfl, hvs⟩ := hv.agg_inv
    obtain ⟨v2, r2, rfl, hv2, hr2⟩ := hvs.cons_inv
    obtain ⟨v3, r3, rfl, hv3, hr3⟩ := hr2.cons_inv
    obtain ⟨v4, r4, rfl, hv4, hr4⟩ := hr3.cons_inv
    obtain rfl := hr4.nil_inv
    have e2 := handle_inv hk hS hv2
    subst e2
    cases hv4
    cases hv3 with
    | ptr hb =>
      obtain ⟨vs', m1, m2, m3⟩ := hS.row hb hc
      obtain ⟨v5, r5, rfl, hv5, hr5⟩ := m1.cons_inv
      rw [hr5.nil_inv] at m3
      have hcell := m3 0 v5 rfl
      rw [Nat.add_zero] at hcell
      have h5 : ∃ sp' c', v5 = .slice sp' n c' := by cases hv5 <;> exact ⟨_, _, rfl⟩
      obtain ⟨sp', c', rfl⟩ := h5
      refine .inr ⟨.int .i64 n, w, ?_, ρ, ⟨.int _ _, hS, Ext.refl _ _ _, (by first | exact AH.le_put _ _ _ | exact AH.le_refl _), fun _ _ => rfl⟩⟩
      rw [run_callFunc_extern q1 q2 q3 q4 q5]
      have := Lib.run_valueLen_slice s.t s.e i k1 k2 k3 _ sp' n c' w hcell
      change ((ReflectliteValue.method (ReflectliteValue.valueError "reflectlite.Value.Len" 0) ReflectliteValue.len #[.agg #[typeHandle P s.t, .pointer (some _), .int .u64 151]]).run P w).andThen _ = _
      rw [this]
      rfl
  split at k
  · rename_i _ _ _ hfs
    obtain ⟨fn, q1, q2, q3, q4, q5⟩ := hk.ext f "internal/reflectlite.Swapper" (.inr (.inr ⟨hfs, rfl⟩))
    rw [if_neg (by decide), if_neg (by decide)] at q5
    split at k
    case h_2 => cases k
    rename_i t a n c
    split at k
    case h_2 => cases k
    rename_i s ht
    obtain ⟨hm, rfl⟩ := Prims.ty_mem ht
    obtain ⟨i, ie, ke, k1, k2, k3, k4, k5, k6, k7, k8, k9, k10, k11⟩ := hk.ty s hm
    obtain ⟨v1, r1, rfl, hv, hr⟩ := hargs.cons_inv
    obtain rfl := hr.nil_inv
    have h5 : ∃ a' c', v1 = .iface s.t (.slice a' n c') ∧ Rv ρ (.slice a n c) (.slice a' n c') := by
      cases hv with
      | iface _ hv => cases hv with
        | slice hb => exact ⟨_, _, rfl, .slice hb⟩
        | sliceNil => exact ⟨_, _, rfl, .sliceNil _ _⟩
    obtain ⟨a', c', rfl, hsl⟩ := h5
    have hrun : ∀ (fk : FuncId), P.funcs.findIdx? (·.name == "internal/reflectlite" ++ ".Swapper$" ++ toString (Lib.swapperK n ie ke)) = some fk →
        (callFunc f ⟨[.iface s.t (.slice a' n c')]⟩).run P w = .ok (.value (.func (.func fk) #[] (if Lib.swapperK n ie ke ≤ 2 then #[] else #[.slice a' n c', typeHandle P s.e]))) w := by
      intro fk hfk
      rw [run_callFunc_extern q1 q2 q3 q4 q5]
      have := Lib.run_swapper_slice s.t s.e i ie k1 k2 k4 ke k6 a' n c' fk hfk w
      change ((ReflectliteSwapper.swapper "internal/reflectlite" (ReflectliteValue.valueError "Swapper") #[.iface s.t (.slice a' n c')]).run P w).andThen _ = _
      rw [this]
      rfl
    have acted : ∀ {u u' : Value}, Rv ρ u u' → Acted ρ h w u h u' w ρ := fun hr => ⟨hr, hS, Ext.refl _ _ _, (by first | exact AH.le_put _ _ _ | exact AH.le_refl _), fun _ _ => rfl⟩
    split at k
    · rename_i h0
      subst h0
      cases k
      refine .inr ⟨_, w, hrun p.s1 k8, ρ, acted ?_⟩
      rw [if_pos (by simp [Lib.swapperK])]
      exact Rv.func' .nil .nil
    · split at k
      · rename_i h0
        subst h0
        cases k
        refine .inr ⟨_, w, hrun p.s2 k9, ρ, acted ?_⟩
        rw [if_pos (by simp [Lib.swapperK])]
        exact Rv.func' .nil .nil
      · rename_i h0 h1
        cases k
        have e := swapperK_two h0 h1 ie ke
        refine .inr ⟨_, w, hrun s.sw (by rw [e]; exact k10), ρ, acted ?_⟩
        rw [if_neg (by rw [e]; omega)]
        exact Rv.func' .nil (.cons hsl (.cons (handle_rel hk hS s.e) .nil))
  · split at k
    case h_2 => cases k
    rename_i i j b o n c g e
    split at k
    case isFalse => cases k
    rename_i hh
    obtain ⟨rfl, i0, i1, j0, j1⟩ := hh
    split at k
    case h_2 => cases k
    rename_i s ht
    split at k
    case h_2 => cases k
    rename_i h2 hsw
    cases k
    obtain ⟨hm, rfl, rfl⟩ := Prims.el_mem ht
    obtain ⟨fn, gs, q1, q2, q3, q4, q5⟩ := hk.swf s hm
    obtain ⟨v1, r1, rfl, hv1, hr1⟩ := hargs.cons_inv
    obtain ⟨v2, r2, rfl, hv2, hr2⟩ := hr1.cons_inv
    obtain ⟨v3, r3, rfl, hv3, hr3⟩ := hr2.cons_inv
    obtain ⟨v4, r4, rfl, hv4, hr4⟩ := hr3.cons_inv
    obtain rfl := hr4.nil_inv
    cases hv1
    cases hv2
    have e4 := handle_inv hk hS hv4
    subst e4
    cases hv3 with
    | slice hb =>
      obtain ⟨i, rfl⟩ := Int.eq_ofNat_of_zero_le i0
      obtain ⟨j, rfl⟩ := Int.eq_ofNat_of_zero_le j0
      simp only [Int.ofNat_eq_natCast, Int.toNat_natCast] at hsw
      obtain ⟨w', m1, m2⟩ := prim_swap (n := n) (c := c + _) gs hk hm hS hb (i := i) (j := j) (by omega) (by omega) hsw
      refine .inr ⟨_, w', ?_, ρ, m2⟩
      rw [run_callFunc_extern q1 q2 q3 q4 q5]
      change ((ReflectliteSwapper.swap gs #[.int .i64 i, .int .i64 j, .slice (some ⟨_, o, none⟩) n _, typeHandle P s.e]).run P w).andThen _ = _
      rw [m1]
      rfl

end
end Go.Am
