import Derived.Test.YtikphefllmemjaaGreatDoorZe13
import Derived.Test.YtikphefllmemjaaGreatDoorZe1
import Derived.Test.YtikphefllmemjaaGreatDoorZe7
/-
ProgWords: for every text the law answers true.
-/
namespace Go.Am.Zd
open Go Go.Am Go.Proofs
set_option maxRecDepth 100000
set_option linter.unusedVariables false
set_option linter.unusedSectionVars false
theorem pureRun_bind {α β : Type} (P : Program) (s : Sem α) (f : α → Sem β) : pureRun P (s >>= f) = (pureRun P s).bind fun a => pureRun P (f a) := by
  induction s with
  | pure a => rfl
  | program k ih => exact ih P
  | _ => rfl
/-- the fields of a struct -/
noncomputable def fieldsAt (t : TypeId) : Array Field := match Tryz.prog.underlying t with | some (.struct fs) => fs | _ => #[]
theorem pureRun_loop {P : Program} {f : Field → Option Bool × Unit → Sem (ForInStep (Option Bool × Unit))} : ∀ (l : List Field), (∀ x, x ∈ l → pureRun P (f x (none, ())) = some (.yield (none, ()))) → pureRun P (forIn l (none, ()) f) = some (none, ())
  | [], _ => rfl
  | x :: l, h => by
    rw [List.forIn_cons, pureRun_bind, h x (List.mem_cons_self ..)]
    exact pureRun_loop l (fun y hy => h y (List.mem_cons_of_mem _ hy))
/-- a field is equal -/
def FieldEq (d : Nat) (xs ys : List Value) (f : Field) : Prop := f.name ≠ "_" ∧ ∃ u v, pureRun Tryz.prog (part f.type ⟨xs⟩ f.offset) = some u ∧ pureRun Tryz.prog (part f.type ⟨ys⟩ f.offset) = some v ∧ pureRun Tryz.prog (Op.equalIn d f.type u v) = some true
theorem eqStruct {t : TypeId} {d : Nat} {xs ys : List Value} (hu : pureRun Tryz.prog (underlying t) = some (.struct (fieldsAt t))) (hh : Tryz.prog.stoodInHeld t = false) (h : ∀ f, f ∈ (fieldsAt t).toList → FieldEq d xs ys f) :
    pureRun Tryz.prog (Op.equalIn (d + 1) t (.agg ⟨xs⟩) (.agg ⟨ys⟩)) = some true := by
  rw [Op.equalIn]
  simp only [pureRun_bind]
  rw [hu]
  simp only [Option.bind_some, pureRun_bind]
  rw [show pureRun Tryz.prog program = some Tryz.prog by kernel_rfl]
  simp only [Option.bind_some]
  rw [if_neg (by rw [hh]; simp), pureRun_bind, ← Array.forIn_toList, pureRun_loop]
  · rfl
  · intro f hf
    obtain ⟨hn, u, v, hx, hy, he⟩ := h f hf
    rw [if_pos hn, pureRun_bind, hx, Option.bind_some, pureRun_bind, hy, Option.bind_some, pureRun_bind, he, Option.bind_some]
    rfl
theorem forall2 {α : Type} {p : α → Prop} {l : List α} (hl : l.length = 2) (h0 : p (l[0]'(by omega))) (h1 : p (l[1]'(by omega))) : ∀ x, x ∈ l → p x := by
  intro x hx
  obtain ⟨i, hi, rfl⟩ := List.getElem_of_mem hx
  rw [hl] at hi
  match i, hi with
  | 0, _ => exact h0
  | 1, _ => exact h1
theorem forall4 {α : Type} {p : α → Prop} {l : List α} (hl : l.length = 4) (h0 : p (l[0]'(by omega))) (h1 : p (l[1]'(by omega))) (h2 : p (l[2]'(by omega))) (h3 : p (l[3]'(by omega))) : ∀ x, x ∈ l → p x := by
  intro x hx
  obtain ⟨i, hi, rfl⟩ := List.getElem_of_mem hx
  rw [hl] at hi
  match i, hi with
  | 0, _ => exact h0
  | 1, _ => exact h1
  | 2, _ => exact h2
  | 3, _ => exact h3
theorem len53 : (fieldsAt 53).toList.length = 2 := by kernel_rfl
theorem len55 : (fieldsAt 55).toList.length = 4 := by kernel_rfl
theorem eqI {d : Nat} {f : Field} (u : Int) (hf : pureRun Tryz.prog (Op.equalIn d f.type (.int .i64 u) (.int .i64 u)) = some (u == u)) : pureRun Tryz.prog (Op.equalIn d f.type (.int .i64 u) (.int .i64 u)) = some true := by rw [hf, beq_self_eq_true]
theorem eq53 (x y : Int) : pureRun Tryz.prog (Op.equalIn 9999 53 (.agg ⟨[.int .i64 x, .int .i64 y]⟩) (.agg ⟨[.int .i64 x, .int .i64 y]⟩)) = some true := by
  refine eqStruct (by kernel_rfl) (by kernel_rfl) (forall2 len53 ⟨of_decide_eq_true (by kernel_rfl), .int .i64 x, .int .i64 x, by kernel_rfl, by kernel_rfl, eqI _ (by kernel_rfl)⟩ ⟨of_decide_eq_true (by kernel_rfl), .int .i64 y, .int .i64 y, by kernel_rfl, by kernel_rfl, eqI _ (by kernel_rfl)⟩)
theorem eq55 (k a b x y : Int) : pureRun Tryz.prog (Op.equal 55 (.agg ⟨[.int .i64 k, .int .i64 a, .int .i64 b, .int .i64 x, .int .i64 y]⟩) (.agg ⟨[.int .i64 k, .int .i64 a, .int .i64 b, .int .i64 x, .int .i64 y]⟩)) = some true := by
  refine eqStruct (by kernel_rfl) (by kernel_rfl) (forall4 len55 ⟨of_decide_eq_true (by kernel_rfl), .int .i64 k, .int .i64 k, by kernel_rfl, by kernel_rfl, eqI _ (by kernel_rfl)⟩ ⟨of_decide_eq_true (by kernel_rfl), .int .i64 a, .int .i64 a, by kernel_rfl, by kernel_rfl, eqI _ (by kernel_rfl)⟩ ⟨of_decide_eq_true (by kernel_rfl), .int .i64 b, .int .i64 b, by kernel_rfl, by kernel_rfl, eqI _ (by kernel_rfl)⟩
    ⟨of_decide_eq_true (by kernel_rfl), .agg ⟨[.int .i64 x, .int .i64 y]⟩, .agg ⟨[.int .i64 x, .int .i64 y]⟩, by kernel_rfl, by kernel_rfl, eq53 x y⟩)
theorem eqV55 (k a b x y : Int) : eqCV Tryz.prog true 55 (.agg ⟨[.int .i64 k, .int .i64 a, .int .i64 b, .int .i64 x, .int .i64 y]⟩) (.agg ⟨[.int .i64 k, .int .i64 a, .int .i64 b, .int .i64 x, .int .i64 y]⟩) = some (.bool false) := by
  unfold eqCV
  rw [if_pos (by kernel_rfl), eq55]
  rfl

/-! ### the letters -/
def lts (s : ByteArray) : Nat → List Int
  | 0 => []
  | i + 1 => if (lts s i).length < 500 ∧ 97 ≤ byteAt s (i : Int) ∧ byteAt s (i : Int) ≤ 122 then lts s i ++ [byteAt s (i : Int)] else lts s i
theorem lts_yes {s : ByteArray} {i : Nat} (h : (lts s i).length < 500) (ha : 97 ≤ byteAt s (i : Int)) (hb : byteAt s (i : Int) ≤ 122) : lts s (i + 1) = lts s i ++ [byteAt s (i : Int)] := if_pos ⟨h, ha, hb⟩
theorem lts_no {s : ByteArray} {i : Nat} (h : ¬ (97 ≤ byteAt s (i : Int) ∧ byteAt s (i : Int) ≤ 122)) : lts s (i + 1) = lts s i := if_neg (fun k => h k.2)
theorem lts_full {s : ByteArray} {i : Nat} (h : ¬ (lts s i).length < 500) : ∀ k, lts s (i + k) = lts s i
  | 0 => rfl
  | k + 1 => by
    have e := lts_full h k
    have e2 : lts s (i + k + 1) = lts s (i + k) := if_neg (by rw [e]; exact fun k => h k.1)
    exact e2.trans e
theorem lts_len (s : ByteArray) : ∀ i, (lts s i).length ≤ 500
  | 0 => Nat.zero_le _
  | i + 1 => by
    have := lts_len s i
    simp only [lts]
    split
    · rename_i h; rw [List.length_append]; show _ + 1 ≤ _; omega
    · exact this
theorem lts_ok (s : ByteArray) : ∀ i x, x ∈ lts s i → 97 ≤ x ∧ x ≤ 122
  | 0, x, h => by simp [lts] at h
  | i + 1, x, h => by
    simp only [lts] at h
    split at h
    · rename_i k
      rcases List.mem_append.1 h with h | h
      · exact lts_ok s i x h
      · have : x = byteAt s (i : Int) := by simpa using h
        subst this; exact k.2
    · exact lts_ok s i x h
/-- their bytes, and the word -/
def rowU (l : List Int) : List Value := l.map (fun x => .int .u8 x)
def wd (l : List Int) : ByteArray := ⟨⟨l.map fun x => UInt8.ofNat x.toNat⟩⟩
theorem rowU_int (l : List Int) : AllInt (rowU l) := fun v hv => by
  obtain ⟨x, _, rfl⟩ := List.mem_map.1 hv
  exact ⟨.u8, x, rfl⟩
theorem wd_size (l : List Int) : (wd l).size = l.length := by
  show (l.map fun x => UInt8.ofNat x.toNat).length = _
  rw [List.length_map]
theorem rowU_len (l : List Int) : (rowU l).length = (wd l).size * 1 := by rw [wd_size]; simp [rowU]
theorem rowU_get {l : List Int} {k : Nat} (h : k < l.length) : (rowU l)[k]? = some (.int .u8 l[k]) := by
  simp [rowU, List.getElem?_map, List.getElem?_eq_getElem h]
theorem bytesOf_row : ∀ l : List Int, bytesOf (rowU l) = some (l.map fun x => UInt8.ofNat x.toNat)
  | [] => rfl
  | x :: l => by
    show (bytesOf (rowU l)).map _ = _
    rw [bytesOf_row l]; rfl
theorem bytesV_row (l : List Int) : bytesV (rowU l) 0 (wd l).size = some (.string (wd l)) := by
  have e := rowU_len l
  unfold bytesV
  rw [if_pos (by omega), List.drop_zero, List.take_of_length_le (by omega)]
  show Option.map _ (bytesOf (rowU l)) = _
  rw [bytesOf_row]; rfl
section
variable {l : List Int} (hl : ∀ x, x ∈ l → 97 ≤ x ∧ x ≤ 122)
include hl
theorem wd_byte {k : Nat} (h : k < l.length) : byteAt (wd l) (k : Int) = l[k] := by
  have := hl l[k] (List.getElem_mem h)
  show (((l.map fun x => UInt8.ofNat x.toNat).getD (Int.toNat (k : Int)) 0).toNat : Int) = _
  rw [show Int.toNat (k : Int) = k from rfl, List.getD_eq_getElem?_getD, List.getElem?_map, List.getElem?_eq_getElem h]
  show ((UInt8.ofNat (l[k]).toNat).toNat : Int) = _
  rw [UInt8.toNat_ofNat_of_lt' (by show _ < 256; omega)]
  omega
theorem wd_LW : LW (wd l) := fun i h0 h1 => by
  rw [wd_size] at h1
  obtain ⟨k, rfl⟩ : ∃ k : Nat, i = (k : Int) := ⟨i.toNat, by omega⟩
  have h : k < l.length := by omega
  rw [wd_byte hl h]
  exact hl _ (List.getElem_mem h)
theorem letr_eq {k : Nat} (h : k < l.length) : letr (wd l) k = l[k] := by
  unfold letr
  rw [lc_eq (by omega) (by rw [wd_size]; omega), wd_byte hl h]
end

/-! ### the first loop -/
/-- in front of a round -/
noncomputable def Hs (s : ByteArray) (l : List Int) (i : Nat) (j : Nat → Value) : St := match l with
  | [] => WN s (i : Int) j
  | x :: l => WB s (rowU (x :: l)) (wd (x :: l)).size (i : Int) j
/-- behind the loop -/
noncomputable def Xs (l : List Int) (j : Nat → Value) : St := match l with
  | [] => ⟨fillT (patOf 99 [(3, (.slice none 0 0))]) j 0, mkG 4096 [] 0 noF, []⟩
  | x :: l => Lb0 (rowU (x :: l)) (wd (x :: l)).size j
theorem To.shift {e e' : IEx} {A A' : (Nat → Value) → St} {st : St} (h : To e A e' st) (k : ∀ j, A j = A' j) : To e A' e' st := by
  obtain ⟨h1, j, rfl⟩ := h
  exact ⟨h1, j, k j⟩
theorem Hs_cons {s : ByteArray} {l : List Int} (h : l ≠ []) (i : Nat) (j : Nat → Value) : Hs s l i j = WB s (rowU l) (wd l).size (i : Int) j := by
  cases l with
  | nil => exact absurd rfl h
  | cons => rfl
theorem Xs_cons {l : List Int} (h : l ≠ []) (j : Nat → Value) : Xs l j = Lb0 (rowU l) (wd l).size j := by
  cases l with
  | nil => exact absurd rfl h
  | cons => rfl
theorem rowU_snoc (l : List Int) (x : Int) : rowU (l ++ [x]) = rowU l ++ [.int .u8 x] := by simp [rowU]
theorem wd_snoc (l : List Int) (x : Int) : (wd (l ++ [x])).size = (wd l).size + 1 := by simp [wd_size]

theorem word_round {s : ByteArray} (hs : s.size ≤ 9223372036854775807) (i : Nat) (hi : i ≤ s.size) (j : Nat → Value) :
    SX Tryz.prog 4096 wBody (Hs s (lts s i) i j) (fun e st => (i < s.size ∧ To .normal (Hs s (lts s (i + 1)) (i + 1)) e st) ∨ To (.exit 0) (Xs (lts s s.size)) e st) := by
  have hlen := lts_len s i
  by_cases hn : lts s i = []
  · rw [hn]
    by_cases hj : i < s.size
    · by_cases hc : 97 ≤ byteAt s (i : Int) ∧ byteAt s (i : Int) ≤ 122
      · refine SX.mono (wN1 s hs (i : Int) (by omega) (by omega) (by omega) hc.1 hc.2 j) (fun e st h => .inl ⟨hj, To.shift h fun j => ?_⟩)
        rw [lts_yes (by rw [hn]; decide) hc.1 hc.2, hn]; rfl
      · have e : lts s (i + 1) = [] := by rw [lts_no hc, hn]
        by_cases ha : 97 ≤ byteAt s (i : Int)
        · refine SX.mono (wN3 s hs (i : Int) (by omega) (by omega) (by omega) ha (fun hb => hc ⟨ha, hb⟩) j) (fun e' st h => .inl ⟨hj, To.shift h fun j => ?_⟩)
          rw [e]; rfl
        · refine SX.mono (wN2 s hs (i : Int) (by omega) (by omega) (by omega) ha j) (fun e' st h => .inl ⟨hj, To.shift h fun j => ?_⟩)
          rw [e]; rfl
    · have e : i = s.size := by omega
      refine SX.mono (wN4 s hs (i : Int) (by omega) (by omega) (by omega) j) (fun e' st h => .inr (To.shift h fun j => ?_))
      rw [← e, hn]; rfl
  · rw [Hs_cons hn]
    have hR := rowU_int (lts s i)
    have lR := rowU_len (lts s i)
    have hm : (wd (lts s i)).size ≤ 500 := by rw [wd_size]; exact hlen
    by_cases hj : i < s.size
    · by_cases h5 : (wd (lts s i)).size < 500
      · have h5' : (lts s i).length < 500 := by rw [← wd_size]; exact h5
        by_cases hc : 97 ≤ byteAt s (i : Int) ∧ byteAt s (i : Int) ≤ 122
        · refine SX.mono (wB1 s hs _ _ (i : Int) hR lR hm (by omega) (by omega) (by omega) h5 hc.1 hc.2 j) (fun e st h => .inl ⟨hj, To.shift h fun j => ?_⟩)
          rw [lts_yes h5' hc.1 hc.2, Hs_cons (by simp), rowU_snoc, wd_snoc]; rfl
        · have e : lts s (i + 1) = lts s i := lts_no hc
          by_cases ha : 97 ≤ byteAt s (i : Int)
          · refine SX.mono (wB3 s hs _ _ (i : Int) hR lR hm (by omega) (by omega) (by omega) h5 ha (fun hb => hc ⟨ha, hb⟩) j) (fun e' st h => .inl ⟨hj, To.shift h fun j => ?_⟩)
            rw [e, Hs_cons hn]; rfl
          · refine SX.mono (wB2 s hs _ _ (i : Int) hR lR hm (by omega) (by omega) (by omega) h5 ha j) (fun e' st h => .inl ⟨hj, To.shift h fun j => ?_⟩)
            rw [e, Hs_cons hn]; rfl
      · have e : lts s s.size = lts s i := by
          have := lts_full (s := s) (i := i) (by rw [← wd_size]; exact h5) (s.size - i)
          rwa [Nat.add_sub_cancel' hi] at this
        refine SX.mono (wB5 s hs _ _ (i : Int) hR lR hm (by omega) (by omega) (by omega) h5 j) (fun e' st h => .inr (To.shift h fun j => ?_))
        rw [e, Xs_cons hn]; rfl
    · have e : i = s.size := by omega
      refine SX.mono (wB4 s hs _ _ (i : Int) hR lR hm (by omega) (by omega) (by omega) j) (fun e' st h => .inr (To.shift h fun j => ?_))
      rw [← e, Xs_cons hn]; rfl
theorem word_loop {s : ByteArray} (hs : s.size ≤ 9223372036854775807) (j : Nat → Value) : SX Tryz.prog 4096 (.block 0 (.loop wBody)) (WN s 0 j) (To .normal (Xs (lts s s.size))) := by
  refine SX.block (B1 := To (.exit 0) (Xs (lts s s.size))) ?_ (fun e st h => ?_)
  · refine SX.loop (fun n st => ∃ i j, i ≤ s.size ∧ n + i = s.size ∧ st = Hs s (lts s i) i j) (fun n st h => ?_) (n := s.size) ⟨0, j, Nat.zero_le _, rfl, rfl⟩
    obtain ⟨i, j, hi, hn, rfl⟩ := h
    refine SX.mono (word_round hs i hi j) (fun e st h => ?_)
    rcases h with ⟨hj, h⟩ | h
    · obtain ⟨rfl, j', rfl⟩ := h
      exact .inl ⟨rfl, s.size - (i + 1), by omega, i + 1, j', by omega, by omega, rfl⟩
    · refine .inr ⟨?_, h⟩
      rw [h.1]; simp
  · obtain ⟨rfl, h⟩ := h
    exact ⟨by show (if (0 : Nat) = 0 then IEx.normal else .exit 0) = .normal; rfl, h⟩

/-- behind the first loop -/
def rest4 : ICode := (.seq f4r9 (.seq f4r10 (.seq (.seq f4r11 (.cond (.tmp 71) (.seq f4r12 .ret) .skip)) (.seq (.seq f4r13 (.block 2 (.loop (.seq (.seq f4r14 (.cond (.tmp 75) .skip (.exit 2))) (.seq (.block 3 (.seq f4r15 (.cond (.tmp 98) (.seq f4r16 .ret) .skip))) f4r17))))) (.seq f4r18 .ret)))))
/-- the end -/
noncomputable def Fin (n : Nat) (G : Nat → Option VObj) (j : Nat → Value) : St := ⟨fillT (patOf 99 [(2, (.bool true))]) j 0, mkG 4096 [] n G, []⟩
theorem rest_none (j : Nat → Value) : SX Tryz.prog 4096 rest4 (Xs [] j) (To .ret (Fin 0 noF)) := z0 j
theorem rest_one {x : Int} (hx : 97 ≤ x ∧ x ≤ 122) (j : Nat → Value) : SX Tryz.prog 4096 rest4 (Xs [x] j) (To .ret (Fin 0 noF)) := by
  have hl : ∀ y, y ∈ [x] → 97 ≤ y ∧ y ≤ 122 := fun y hy => by
    have : y = x := by simpa using hy
    subst this; exact hx
  have e : l1 x = x := letr_eq hl (k := 0) (by simp)
  refine z1 x hx (by rw [e]; exact hx) rfl ?_ (by rw [e]; exact eqV55 ..) j
  exact sub_size (w := wd [x]) (i := 0) (by omega) (by omega)

section
variable {l : List Int} (hl : ∀ x, x ∈ l → 97 ≤ x ∧ x ≤ 122) (h2 : 2 ≤ l.length) (h5 : l.length ≤ 500)
include hl h2 h5
/-- the tables in which Parse and Compile are answered -/
noncomputable def T8 (w : ByteArray) (R : List Value) : Tbl := tbl.with1 Tryz.prog 8 (a8 w R) (P0 w R (fun _ => undef)).h (v8 (famOf (letr w) w.size) R (nrow id w.size) w.size, (P8 (famOf (letr w) w.size) R (nrow id w.size) w.size (fun _ => undef)).h)
noncomputable def T9 (R : List Value) (m : Nat) (c : Nat → Int) : Tbl := tbl.with1 Tryz.prog 9 (a9 (famOf c m) R (rowL m) m) (Cm0 (famOf c m) R (rowL m) m (fun _ => undef)).h (v9 (GG m c) R (rowL m) (prg c m) m (m + m) (m + 3), (Cm11 (GG m c) R (rowL m) (prg c m) m (m + m) (m + 3) (fun _ => undef)).h)
theorem prg_load (c : Nat → Int) {m k : Nat} (h : k < m) : loadNV (prg c m) (0 + Int.toNat (1 + (k : Int)) * 5) 5 = some (.agg ⟨[.int .i64 0, .int .i64 (2 + (k : Int)), .int .i64 0, .int .i64 (c k), .int .i64 (c k)]⟩) := by
  have e := prg_get c h
  have hlen := prg_len c m
  rw [show (((k + 1 : Nat) : Int) + 1) = 2 + (k : Int) by omega] at e
  unfold loadNV
  rw [show 0 + Int.toNat (1 + (k : Int)) * 5 = (1 + k) * 5 by omega, if_pos (by omega), e]
  rfl
theorem rest_more (j : Nat → Value) : SX Tryz.prog 4096 rest4 (Xs l j) (To .ret (Fin ((wd l).size + (wd l).size) (GG (wd l).size (letr (wd l))))) := by
  have hne : l ≠ [] := by intro h; subst h; simp at h2
  rw [Xs_cons hne]
  have hw := wd_size l
  generalize hm : (wd l).size = m at *
  generalize hcc : letr (wd l) = c at *
  have k2 : 2 ≤ m := by omega
  have k5 : m ≤ 500 := by omega
  have hR := rowU_int l
  have lR : (rowU l).length = m * 1 := by rw [rowU_len, hm]
  have hlt : ∀ k, k < m → ∃ h : k < l.length, c k = l[k] := fun k hk => by
    have h : k < l.length := by omega
    exact ⟨h, by rw [← hcc]; exact letr_eq hl h⟩
  have hc : ∀ k, k < m → 97 ≤ c k ∧ c k ≤ 122 := fun k hk => by
    obtain ⟨h, e⟩ := hlt k hk
    rw [e]; exact hl _ (List.getElem_mem h)
  have hT8 : TblOk Tryz.prog (T8 (wd l) (rowU l)) := with1_ok ok mixed (con_parse (wd_LW hl) hR (by omega) (by omega)) (good_parse (wd_LW hl) hR (by omega) (by omega))
  have hT9 : TblOk Tryz.prog (T9 (rowU l) m c) := with1_ok ok mixed (con_comp hR lR k2 k5 hc) (hn_comp hR lR k2 k5 hc)
  have lL := rowL_len m
  have lM := rowM_len m m
  have h0 : AllSt (famD 0 m) (rowL m) := rowL_st (by omega)
  have n0 : m < OFF := lt_OFF (by omega)
  have f0 := fam_K c m
  have hL : AllSt (famD 0 (m + m)) (rowL m) := rowL_st (by omega)
  have hM : AllSt (famD 0 (m + m)) (rowM m m) := rowM_st (by omega)
  have hn : m + m < OFF := lt_OFF (by omega)
  have hF := fam_K (dbl m c) (m + m)
  have hD := prg_int c m
  have lD := prg_len c m
  have hcall : lim Tryz.prog (T8 (wd l) (rowU l)) 8 (a8 (wd l) (rowU l)) (P0 (wd l) (rowU l) (fun _ => undef)).h = some (v8 (famOf c m) (rowU l) (nrow id m) m, (P8 (famOf c m) (rowU l) (nrow id m) m (fun _ => undef)).h) := by
    rw [← hm, ← hcc]; exact with1_at
  have hb : bytesV (rowU l) 0 m = some (.string (wd l)) := by rw [← hm]; exact bytesV_row l
  refine SX.next (lb_0 (T8 (wd l) (rowU l)) hT8 (wd l) (rowU l) (rowL m) m (famOf c m) hR lR (AllSt.up h0) lL k2 k5 n0 (FamK.up f0) hb hcall j) fun j => ?_
  refine SX.next (la_0 (T9 (rowU l) m c) hT9 (rowU l) (rowL m) m (m + m) (GG m c) hR lR (AllSt.up hL) lL k2 k5 hn (FamK.up hF) (rowM m m) (AllSt.up hM) lM (prg c m) (m + 3) hD lD (by omega) (by omega) (famOf c m) with1_at j) fun j => ?_
  refine SX.next (la_1 (rowU l) (rowL m) m (m + m) (GG m c) hR lR (AllSt.up hL) lL k2 k5 hn (FamK.up hF) (rowM m m) (AllSt.up hM) lM (prg c m) (m + 3) hD lD (by omega) (by omega) rfl j) fun j => ?_
  refine SX.next (A := LaX (GG m c) (m + m)) (SX.next (la_2 (rowU l) (rowL m) m (m + m) (GG m c) hR lR (AllSt.up hL) lL k2 k5 hn (FamK.up hF) (rowM m m) (AllSt.up hM) lM (prg c m) (m + 3) hD lD (by omega) (by omega) rfl j) fun j => ?_) fun j => ?_
  · refine SX.range (fun i => LaB (GG m c) (rowU l) (prg c m) m (m + m) (m + 3) (i : Int)) m (fun i hi j => ?_) (fun j => ?_) j
    · obtain ⟨h, e⟩ := hlt i hi
      refine SX.toMono (la_R (rowU l) (rowL m) m (m + m) (GG m c) hR lR (AllSt.up hL) lL k2 k5 hn (FamK.up hF) (rowM m m) (AllSt.up hM) lM (prg c m) (m + 3) hD lD (by omega) (by omega) rfl (i : Int) (c i) (by omega) (by omega) (hc i hi) ?_ (prg_load hl h2 h5 c hi) (eqV55 ..) j) (fun j => rfl)
      rw [show 0 + Int.toNat (i : Int) * 1 = i by omega, rowU_get h, e]
    · exact la_X (rowU l) (rowL m) m (m + m) (GG m c) hR lR (AllSt.up hL) lL k2 k5 hn (FamK.up hF) (rowM m m) (AllSt.up hM) lM (prg c m) (m + 3) hD lD (by omega) (by omega) rfl (m : Int) (by omega) (by omega) j
  · exact lz_0 (rowU l) (rowL m) m (m + m) (GG m c) hR lR (AllSt.up hL) lL k2 k5 hn (FamK.up hF) (rowM m m) (AllSt.up hM) lM (prg c m) (m + 3) hD lD (by omega) (by omega) rfl j
end

/-- THE LAW -/
theorem law_con (s : ByteArray) (hs : s.size ≤ maxLen) : ∃ h', h'.next ≤ OFF ∧ Con Tryz.prog 4 [.string s] h0 (.bool true) h' := by
  have hs' : s.size ≤ 9223372036854775807 := Nat.le_trans hs (by decide)
  have hok := lts_ok s s.size
  have hlen := lts_len s s.size
  have hrest : ∃ n G, n ≤ 1000 ∧ FamIn 4096 n G ∧ ∀ j, SX Tryz.prog 4096 rest4 (Xs (lts s s.size) j) (To .ret (Fin n G)) := by
    generalize lts s s.size = l at *
    match l, hok, hlen with
    | [], _, _ => exact ⟨0, noF, by omega, noF_in _ _, rest_none⟩
    | [x], hok, _ => exact ⟨0, noF, by omega, noF_in _ _, rest_one (hok x (by simp))⟩
    | x :: y :: l, hok, hlen =>
      have hw := wd_size (x :: y :: l)
      exact ⟨_, _, by omega, (fam_K _ _).fin (Nat.le_of_ble_eq_true rfl), rest_more hok (by simp) hlen⟩
  obtain ⟨n, G, hn, hG, hr⟩ := hrest
  refine ⟨mkG 4096 [] n G, Nat.le_of_ble_eq_true (by kernel_rfl), ?_⟩
  have hall : ∀ j, SX Tryz.prog 4096 f4.body ⟨fillT (patOf 99 [(0, (.string s))]) j 0, mkG 4096 [] 0 noF, []⟩ (To .ret (Fin n G)) := fun j => by
    refine SX.next (wa0 s hs' j) fun j => SX.next (wa1 s hs' j) fun j => SX.next (wa2 s hs' j) fun j => ?_
    refine SX.next (A := Xs (lts s s.size)) (SX.next (wa3 s hs' j) fun j => word_loop hs' j) fun j => hr j
  exact Con.ofTo ok mixed (fn := f4) rfl (h := mkG 4096 [] 0 noF) (h' := mkG 4096 [] n G) (e := .ret) (pat := patOf 99 [(2, (.bool true))]) (ds := []) (by kernel_rfl)
    (good_mkG (n := 4096) (m := 0) (l := []) (lo := []) (by kernel_rfl) (Nat.zero_le _) trivial (noF_in _ _) rfl)
    (good_mkG (n := 4096) (m := n) (l := []) (lo := []) (by kernel_rfl) (Nat.le_of_lt (lt_OFF (by omega))) trivial hG rfl)
    (by kernel_rfl) ⟨Nat.le_refl _, Nat.zero_le _⟩ (Or.inr rfl) (by kernel_rfl) (fun j => by kernel_rfl) (SX.from' (hall (fun _ => undef)) (by kernel_rfl))
end Go.Am.Zd
