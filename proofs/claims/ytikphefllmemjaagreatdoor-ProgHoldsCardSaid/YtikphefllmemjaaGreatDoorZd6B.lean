import Derived.Test.YtikphefllmemjaaGreatDoorZd6A
/-
ProgHolds: the runs of the functions, case by case (printed by wip/zd/Zd6gen.lean), and what they come to.
-/
namespace Go.Am.Zd
open Go Go.Am Go.Proofs
set_option linter.unusedVariables false
set_option maxRecDepth 100000
/- 5 steps -/
set_option maxHeartbeats 4000000 in
theorem m15a (kind : Int) (s : ByteArray) (k : Int) (h : AH) (hs : s.size ≤ 9223372036854775807) (h0 : k < 0) : Ev Tryz.prog tbl 15 [(.int .i64 kind), (.string s), (.int .i64 k)] h ((.bool false), h) := by
  refine Ev.ofH (n := 200) (hs := [(2, (.q (.bool true)))]) (cs := [binV .lss (.int .i64 k) (.int .i64 0) = some (.bool true)]) (by kernel_rfl) ?_
  exact ⟨(Fx.lss_t (by omega)),
    trivial⟩

/- 8 steps -/
set_option maxHeartbeats 4000000 in
theorem m15b (kind : Int) (s : ByteArray) (k : Int) (h : AH) (hs : s.size ≤ 9223372036854775807) (h0 : 0 ≤ k) (h1 : s.size < k) : Ev Tryz.prog tbl 15 [(.int .i64 kind), (.string s), (.int .i64 k)] h ((.bool false), h) := by
  refine Ev.ofH (n := 200) (hs := [(2, (.q (.bool false))), (4, (.q (.bool true)))]) (cs := [binV .gtr (.int .i64 k) (.int .i64 ((s).size : Int)) = some (.bool true),
    binV .lss (.int .i64 k) (.int .i64 0) = some (.bool false)]) (by kernel_rfl) ?_
  exact ⟨(Fx.gtr_t (by omega)),
    (Fx.lss_f (by omega)),
    trivial⟩

/- 12 steps -/
set_option maxHeartbeats 4000000 in
theorem m15k2a (s : ByteArray) (k : Int) (h : AH) (hs : s.size ≤ 9223372036854775807) (h0 : 0 ≤ k) (h1 : k ≤ s.size) (e : k = 0) : Ev Tryz.prog tbl 15 [(.int .i64 2), (.string s), (.int .i64 k)] h ((.bool true), h) := by
  refine Ev.ofH (n := 200) (hs := [(2, (.q (.bool false))), (4, (.q (.bool false))), (5, (.q (.bool true)))]) (cs := [binV .eql (.int .i64 k) (.int .i64 0) = some (.bool true),
    binV .gtr (.int .i64 k) (.int .i64 ((s).size : Int)) = some (.bool false),
    binV .lss (.int .i64 k) (.int .i64 0) = some (.bool false)]) (by kernel_rfl) ?_
  exact ⟨(Fx.eql_t (by omega)),
    (Fx.gtr_f (by omega)),
    (Fx.lss_f (by omega)),
    trivial⟩

/- 12 steps -/
set_option maxHeartbeats 4000000 in
theorem m15k2b (s : ByteArray) (k : Int) (h : AH) (hs : s.size ≤ 9223372036854775807) (h0 : 0 ≤ k) (h1 : k ≤ s.size) (e : ¬ k = 0) : Ev Tryz.prog tbl 15 [(.int .i64 2), (.string s), (.int .i64 k)] h ((.bool false), h) := by
  refine Ev.ofH (n := 200) (hs := [(2, (.q (.bool false))), (4, (.q (.bool false))), (5, (.q (.bool false)))]) (cs := [binV .eql (.int .i64 k) (.int .i64 0) = some (.bool false),
    binV .gtr (.int .i64 k) (.int .i64 ((s).size : Int)) = some (.bool false),
    binV .lss (.int .i64 k) (.int .i64 0) = some (.bool false)]) (by kernel_rfl) ?_
  exact ⟨(Fx.eql_f (by omega)),
    (Fx.gtr_f (by omega)),
    (Fx.lss_f (by omega)),
    trivial⟩

/- 16 steps -/
set_option maxHeartbeats 4000000 in
theorem m15k3a (s : ByteArray) (k : Int) (h : AH) (hs : s.size ≤ 9223372036854775807) (h0 : 0 ≤ k) (h1 : k ≤ s.size) (e : k = s.size) : Ev Tryz.prog tbl 15 [(.int .i64 3), (.string s), (.int .i64 k)] h ((.bool true), h) := by
  refine Ev.ofH (n := 200) (hs := [(2, (.q (.bool false))), (4, (.q (.bool false))), (9, (.q (.bool true)))]) (cs := [binV .eql (.int .i64 k) (.int .i64 ((s).size : Int)) = some (.bool true),
    binV .gtr (.int .i64 k) (.int .i64 ((s).size : Int)) = some (.bool false),
    binV .lss (.int .i64 k) (.int .i64 0) = some (.bool false)]) (by kernel_rfl) ?_
  exact ⟨(Fx.eql_t (by omega)),
    (Fx.gtr_f (by omega)),
    (Fx.lss_f (by omega)),
    trivial⟩

/- 16 steps -/
set_option maxHeartbeats 4000000 in
theorem m15k3b (s : ByteArray) (k : Int) (h : AH) (hs : s.size ≤ 9223372036854775807) (h0 : 0 ≤ k) (h1 : k ≤ s.size) (e : ¬ k = s.size) : Ev Tryz.prog tbl 15 [(.int .i64 3), (.string s), (.int .i64 k)] h ((.bool false), h) := by
  refine Ev.ofH (n := 200) (hs := [(2, (.q (.bool false))), (4, (.q (.bool false))), (9, (.q (.bool false)))]) (cs := [binV .eql (.int .i64 k) (.int .i64 ((s).size : Int)) = some (.bool false),
    binV .gtr (.int .i64 k) (.int .i64 ((s).size : Int)) = some (.bool false),
    binV .lss (.int .i64 k) (.int .i64 0) = some (.bool false)]) (by kernel_rfl) ?_
  exact ⟨(Fx.eql_f (by omega)),
    (Fx.gtr_f (by omega)),
    (Fx.lss_f (by omega)),
    trivial⟩

/- 18 steps -/
set_option maxHeartbeats 4000000 in
theorem m15k4a (s : ByteArray) (k : Int) (h : AH) (hs : s.size ≤ 9223372036854775807) (h0 : 0 ≤ k) (h1 : k ≤ s.size) (e : k = 0) : Ev Tryz.prog tbl 15 [(.int .i64 4), (.string s), (.int .i64 k)] h ((.bool true), h) := by
  refine Ev.ofH (n := 200) (hs := [(2, (.q (.bool false))), (4, (.q (.bool false))), (9, (.q (.bool true)))]) (cs := [binV .eql (.int .i64 k) (.int .i64 0) = some (.bool true),
    binV .gtr (.int .i64 k) (.int .i64 ((s).size : Int)) = some (.bool false),
    binV .lss (.int .i64 k) (.int .i64 0) = some (.bool false)]) (by kernel_rfl) ?_
  exact ⟨(Fx.eql_t (by omega)),
    (Fx.gtr_f (by omega)),
    (Fx.lss_f (by omega)),
    trivial⟩

/- 20 steps -/
set_option maxHeartbeats 4000000 in
theorem m15k4b (s : ByteArray) (k : Int) (h : AH) (hs : s.size ≤ 9223372036854775807) (h0 : 0 ≤ k) (h1 : k ≤ s.size) (e : ¬ k = 0) (hb : byteAt s (k - 1) = 10) : Ev Tryz.prog tbl 15 [(.int .i64 4), (.string s), (.int .i64 k)] h ((.bool true), h) := by
  refine Ev.ofH (n := 200) (hs := [(2, (.q (.bool false))), (4, (.q (.bool false))), (9, (.q (.bool false))), (3, (.q (.int .i64 (k - 1)))), (0, (.q (.int .u8 (byteAt s (k - 1))))), (0, (.q (.bool true)))]) (cs := [binV .eql (.int .u8 (byteAt s (k - 1))) (.int .u8 10) = some (.bool true),
    (if 0 ≤ ((k - 1) : Int) then ((ByteArray.data s).toList[Int.toNat (k - 1)]?).map (fun b => (.int .u8 b.toNat : Value)) else none) = some (.int .u8 (byteAt s (k - 1))),
    binV .sub (.int .i64 k) (.int .i64 1) = some (.int .i64 (k - 1)),
    binV .eql (.int .i64 k) (.int .i64 0) = some (.bool false),
    binV .gtr (.int .i64 k) (.int .i64 ((s).size : Int)) = some (.bool false),
    binV .lss (.int .i64 k) (.int .i64 0) = some (.bool false)]) (by kernel_rfl) ?_
  exact ⟨(Fx.eql_t (by omega)),
    (Fx.index (by omega) (by omega)),
    (Fx.sub_sub (by omega) (by omega)),
    (Fx.eql_f (by omega)),
    (Fx.gtr_f (by omega)),
    (Fx.lss_f (by omega)),
    trivial⟩

/- 20 steps -/
set_option maxHeartbeats 4000000 in
theorem m15k4c (s : ByteArray) (k : Int) (h : AH) (hs : s.size ≤ 9223372036854775807) (h0 : 0 ≤ k) (h1 : k ≤ s.size) (e : ¬ k = 0) (hb : ¬ byteAt s (k - 1) = 10) : Ev Tryz.prog tbl 15 [(.int .i64 4), (.string s), (.int .i64 k)] h ((.bool false), h) := by
  refine Ev.ofH (n := 200) (hs := [(2, (.q (.bool false))), (4, (.q (.bool false))), (9, (.q (.bool false))), (3, (.q (.int .i64 (k - 1)))), (0, (.q (.int .u8 (byteAt s (k - 1))))), (0, (.q (.bool false)))]) (cs := [binV .eql (.int .u8 (byteAt s (k - 1))) (.int .u8 10) = some (.bool false),
    (if 0 ≤ ((k - 1) : Int) then ((ByteArray.data s).toList[Int.toNat (k - 1)]?).map (fun b => (.int .u8 b.toNat : Value)) else none) = some (.int .u8 (byteAt s (k - 1))),
    binV .sub (.int .i64 k) (.int .i64 1) = some (.int .i64 (k - 1)),
    binV .eql (.int .i64 k) (.int .i64 0) = some (.bool false),
    binV .gtr (.int .i64 k) (.int .i64 ((s).size : Int)) = some (.bool false),
    binV .lss (.int .i64 k) (.int .i64 0) = some (.bool false)]) (by kernel_rfl) ?_
  exact ⟨(Fx.eql_f (by omega)),
    (Fx.index (by omega) (by omega)),
    (Fx.sub_sub (by omega) (by omega)),
    (Fx.eql_f (by omega)),
    (Fx.gtr_f (by omega)),
    (Fx.lss_f (by omega)),
    trivial⟩

/- 22 steps -/
set_option maxHeartbeats 4000000 in
theorem m15k5a (s : ByteArray) (k : Int) (h : AH) (hs : s.size ≤ 9223372036854775807) (h0 : 0 ≤ k) (h1 : k ≤ s.size) (e : k = s.size) : Ev Tryz.prog tbl 15 [(.int .i64 5), (.string s), (.int .i64 k)] h ((.bool true), h) := by
  refine Ev.ofH (n := 200) (hs := [(2, (.q (.bool false))), (4, (.q (.bool false))), (13, (.q (.bool true)))]) (cs := [binV .eql (.int .i64 k) (.int .i64 ((s).size : Int)) = some (.bool true),
    binV .gtr (.int .i64 k) (.int .i64 ((s).size : Int)) = some (.bool false),
    binV .lss (.int .i64 k) (.int .i64 0) = some (.bool false)]) (by kernel_rfl) ?_
  exact ⟨(Fx.eql_t (by omega)),
    (Fx.gtr_f (by omega)),
    (Fx.lss_f (by omega)),
    trivial⟩

/- 24 steps -/
set_option maxHeartbeats 4000000 in
theorem m15k5b (s : ByteArray) (k : Int) (h : AH) (hs : s.size ≤ 9223372036854775807) (h0 : 0 ≤ k) (h1 : k ≤ s.size) (e : ¬ k = s.size) (hb : byteAt s k = 10) : Ev Tryz.prog tbl 15 [(.int .i64 5), (.string s), (.int .i64 k)] h ((.bool true), h) := by
  refine Ev.ofH (n := 200) (hs := [(2, (.q (.bool false))), (4, (.q (.bool false))), (13, (.q (.bool false))), (3, (.q (.int .u8 (byteAt s k)))), (0, (.q (.bool true)))]) (cs := [binV .eql (.int .u8 (byteAt s k)) (.int .u8 10) = some (.bool true),
    (if 0 ≤ (k : Int) then ((ByteArray.data s).toList[Int.toNat k]?).map (fun b => (.int .u8 b.toNat : Value)) else none) = some (.int .u8 (byteAt s k)),
    binV .eql (.int .i64 k) (.int .i64 ((s).size : Int)) = some (.bool false),
    binV .gtr (.int .i64 k) (.int .i64 ((s).size : Int)) = some (.bool false),
    binV .lss (.int .i64 k) (.int .i64 0) = some (.bool false)]) (by kernel_rfl) ?_
  exact ⟨(Fx.eql_t (by omega)),
    (Fx.index (by omega) (by omega)),
    (Fx.eql_f (by omega)),
    (Fx.gtr_f (by omega)),
    (Fx.lss_f (by omega)),
    trivial⟩

/- 24 steps -/
set_option maxHeartbeats 4000000 in
theorem m15k5c (s : ByteArray) (k : Int) (h : AH) (hs : s.size ≤ 9223372036854775807) (h0 : 0 ≤ k) (h1 : k ≤ s.size) (e : ¬ k = s.size) (hb : ¬ byteAt s k = 10) : Ev Tryz.prog tbl 15 [(.int .i64 5), (.string s), (.int .i64 k)] h ((.bool false), h) := by
  refine Ev.ofH (n := 200) (hs := [(2, (.q (.bool false))), (4, (.q (.bool false))), (13, (.q (.bool false))), (3, (.q (.int .u8 (byteAt s k)))), (0, (.q (.bool false)))]) (cs := [binV .eql (.int .u8 (byteAt s k)) (.int .u8 10) = some (.bool false),
    (if 0 ≤ (k : Int) then ((ByteArray.data s).toList[Int.toNat k]?).map (fun b => (.int .u8 b.toNat : Value)) else none) = some (.int .u8 (byteAt s k)),
    binV .eql (.int .i64 k) (.int .i64 ((s).size : Int)) = some (.bool false),
    binV .gtr (.int .i64 k) (.int .i64 ((s).size : Int)) = some (.bool false),
    binV .lss (.int .i64 k) (.int .i64 0) = some (.bool false)]) (by kernel_rfl) ?_
  exact ⟨(Fx.eql_f (by omega)),
    (Fx.index (by omega) (by omega)),
    (Fx.eql_f (by omega)),
    (Fx.gtr_f (by omega)),
    (Fx.lss_f (by omega)),
    trivial⟩

/- 24 steps -/
set_option maxHeartbeats 4000000 in
theorem m15k6a (s : ByteArray) (k : Int) (h : AH) (hs : s.size ≤ 9223372036854775807) (h0 : 0 ≤ k) (h1 : k ≤ s.size) (hx : wd s (k - 1) = false) (hy : wd s k = false) : Ev Tryz.prog tbl 15 [(.int .i64 6), (.string s), (.int .i64 k)] h ((.bool false), h) := by
  refine Ev.ofH (n := 200) (hs := [(2, (.q (.bool false))), (4, (.q (.bool false))), (14, (.q (.int .i64 (k - 1)))), (0, (.x (.bool false) h)), (2, (.x (.bool false) h))]) (cs := [lim Tryz.prog tbl 32 [(.string s), (.int .i64 k)] h = some ((.bool false), h),
    lim Tryz.prog tbl 32 [(.string s), (.int .i64 (k - 1))] h = some ((.bool false), h),
    binV .sub (.int .i64 k) (.int .i64 1) = some (.int .i64 (k - 1)),
    binV .gtr (.int .i64 k) (.int .i64 ((s).size : Int)) = some (.bool false),
    binV .lss (.int .i64 k) (.int .i64 0) = some (.bool false)]) (by kernel_rfl) ?_
  exact ⟨(c32 (by assumption)),
    (c32 (by assumption)),
    (Fx.sub_sub (by omega) (by omega)),
    (Fx.gtr_f (by omega)),
    (Fx.lss_f (by omega)),
    trivial⟩

/- 24 steps -/
set_option maxHeartbeats 4000000 in
theorem m15k6b (s : ByteArray) (k : Int) (h : AH) (hs : s.size ≤ 9223372036854775807) (h0 : 0 ≤ k) (h1 : k ≤ s.size) (hx : wd s (k - 1) = false) (hy : wd s k = true) : Ev Tryz.prog tbl 15 [(.int .i64 6), (.string s), (.int .i64 k)] h ((.bool true), h) := by
  refine Ev.ofH (n := 200) (hs := [(2, (.q (.bool false))), (4, (.q (.bool false))), (14, (.q (.int .i64 (k - 1)))), (0, (.x (.bool false) h)), (2, (.x (.bool true) h))]) (cs := [lim Tryz.prog tbl 32 [(.string s), (.int .i64 k)] h = some ((.bool true), h),
    lim Tryz.prog tbl 32 [(.string s), (.int .i64 (k - 1))] h = some ((.bool false), h),
    binV .sub (.int .i64 k) (.int .i64 1) = some (.int .i64 (k - 1)),
    binV .gtr (.int .i64 k) (.int .i64 ((s).size : Int)) = some (.bool false),
    binV .lss (.int .i64 k) (.int .i64 0) = some (.bool false)]) (by kernel_rfl) ?_
  exact ⟨(c32 (by assumption)),
    (c32 (by assumption)),
    (Fx.sub_sub (by omega) (by omega)),
    (Fx.gtr_f (by omega)),
    (Fx.lss_f (by omega)),
    trivial⟩

/- 24 steps -/
set_option maxHeartbeats 4000000 in
theorem m15k6c (s : ByteArray) (k : Int) (h : AH) (hs : s.size ≤ 9223372036854775807) (h0 : 0 ≤ k) (h1 : k ≤ s.size) (hx : wd s (k - 1) = true) (hy : wd s k = false) : Ev Tryz.prog tbl 15 [(.int .i64 6), (.string s), (.int .i64 k)] h ((.bool true), h) := by
  refine Ev.ofH (n := 200) (hs := [(2, (.q (.bool false))), (4, (.q (.bool false))), (14, (.q (.int .i64 (k - 1)))), (0, (.x (.bool true) h)), (2, (.x (.bool false) h))]) (cs := [lim Tryz.prog tbl 32 [(.string s), (.int .i64 k)] h = some ((.bool false), h),
    lim Tryz.prog tbl 32 [(.string s), (.int .i64 (k - 1))] h = some ((.bool true), h),
    binV .sub (.int .i64 k) (.int .i64 1) = some (.int .i64 (k - 1)),
    binV .gtr (.int .i64 k) (.int .i64 ((s).size : Int)) = some (.bool false),
    binV .lss (.int .i64 k) (.int .i64 0) = some (.bool false)]) (by kernel_rfl) ?_
  exact ⟨(c32 (by assumption)),
    (c32 (by assumption)),
    (Fx.sub_sub (by omega) (by omega)),
    (Fx.gtr_f (by omega)),
    (Fx.lss_f (by omega)),
    trivial⟩

/- 24 steps -/
set_option maxHeartbeats 4000000 in
theorem m15k6d (s : ByteArray) (k : Int) (h : AH) (hs : s.size ≤ 9223372036854775807) (h0 : 0 ≤ k) (h1 : k ≤ s.size) (hx : wd s (k - 1) = true) (hy : wd s k = true) : Ev Tryz.prog tbl 15 [(.int .i64 6), (.string s), (.int .i64 k)] h ((.bool false), h) := by
  refine Ev.ofH (n := 200) (hs := [(2, (.q (.bool false))), (4, (.q (.bool false))), (14, (.q (.int .i64 (k - 1)))), (0, (.x (.bool true) h)), (2, (.x (.bool true) h))]) (cs := [lim Tryz.prog tbl 32 [(.string s), (.int .i64 k)] h = some ((.bool true), h),
    lim Tryz.prog tbl 32 [(.string s), (.int .i64 (k - 1))] h = some ((.bool true), h),
    binV .sub (.int .i64 k) (.int .i64 1) = some (.int .i64 (k - 1)),
    binV .gtr (.int .i64 k) (.int .i64 ((s).size : Int)) = some (.bool false),
    binV .lss (.int .i64 k) (.int .i64 0) = some (.bool false)]) (by kernel_rfl) ?_
  exact ⟨(c32 (by assumption)),
    (c32 (by assumption)),
    (Fx.sub_sub (by omega) (by omega)),
    (Fx.gtr_f (by omega)),
    (Fx.lss_f (by omega)),
    trivial⟩

/- 26 steps -/
set_option maxHeartbeats 4000000 in
theorem m15k7a (s : ByteArray) (k : Int) (h : AH) (hs : s.size ≤ 9223372036854775807) (h0 : 0 ≤ k) (h1 : k ≤ s.size) (hx : wd s (k - 1) = false) (hy : wd s k = false) : Ev Tryz.prog tbl 15 [(.int .i64 7), (.string s), (.int .i64 k)] h ((.bool true), h) := by
  refine Ev.ofH (n := 200) (hs := [(2, (.q (.bool false))), (4, (.q (.bool false))), (16, (.q (.int .i64 (k - 1)))), (0, (.x (.bool false) h)), (2, (.x (.bool false) h))]) (cs := [lim Tryz.prog tbl 32 [(.string s), (.int .i64 k)] h = some ((.bool false), h),
    lim Tryz.prog tbl 32 [(.string s), (.int .i64 (k - 1))] h = some ((.bool false), h),
    binV .sub (.int .i64 k) (.int .i64 1) = some (.int .i64 (k - 1)),
    binV .gtr (.int .i64 k) (.int .i64 ((s).size : Int)) = some (.bool false),
    binV .lss (.int .i64 k) (.int .i64 0) = some (.bool false)]) (by kernel_rfl) ?_
  exact ⟨(c32 (by assumption)),
    (c32 (by assumption)),
    (Fx.sub_sub (by omega) (by omega)),
    (Fx.gtr_f (by omega)),
    (Fx.lss_f (by omega)),
    trivial⟩

/- 26 steps -/
set_option maxHeartbeats 4000000 in
theorem m15k7b (s : ByteArray) (k : Int) (h : AH) (hs : s.size ≤ 9223372036854775807) (h0 : 0 ≤ k) (h1 : k ≤ s.size) (hx : wd s (k - 1) = false) (hy : wd s k = true) : Ev Tryz.prog tbl 15 [(.int .i64 7), (.string s), (.int .i64 k)] h ((.bool false), h) := by
  refine Ev.ofH (n := 200) (hs := [(2, (.q (.bool false))), (4, (.q (.bool false))), (16, (.q (.int .i64 (k - 1)))), (0, (.x (.bool false) h)), (2, (.x (.bool true) h))]) (cs := [lim Tryz.prog tbl 32 [(.string s), (.int .i64 k)] h = some ((.bool true), h),
    lim Tryz.prog tbl 32 [(.string s), (.int .i64 (k - 1))] h = some ((.bool false), h),
    binV .sub (.int .i64 k) (.int .i64 1) = some (.int .i64 (k - 1)),
    binV .gtr (.int .i64 k) (.int .i64 ((s).size : Int)) = some (.bool false),
    binV .lss (.int .i64 k) (.int .i64 0) = some (.bool false)]) (by kernel_rfl) ?_
  exact ⟨(c32 (by assumption)),
    (c32 (by assumption)),
    (Fx.sub_sub (by omega) (by omega)),
    (Fx.gtr_f (by omega)),
    (Fx.lss_f (by omega)),
    trivial⟩

/- 26 steps -/
set_option maxHeartbeats 4000000 in
theorem m15k7c (s : ByteArray) (k : Int) (h : AH) (hs : s.size ≤ 9223372036854775807) (h0 : 0 ≤ k) (h1 : k ≤ s.size) (hx : wd s (k - 1) = true) (hy : wd s k = false) : Ev Tryz.prog tbl 15 [(.int .i64 7), (.string s), (.int .i64 k)] h ((.bool false), h) := by
  refine Ev.ofH (n := 200) (hs := [(2, (.q (.bool false))), (4, (.q (.bool false))), (16, (.q (.int .i64 (k - 1)))), (0, (.x (.bool true) h)), (2, (.x (.bool false) h))]) (cs := [lim Tryz.prog tbl 32 [(.string s), (.int .i64 k)] h = some ((.bool false), h),
    lim Tryz.prog tbl 32 [(.string s), (.int .i64 (k - 1))] h = some ((.bool true), h),
    binV .sub (.int .i64 k) (.int .i64 1) = some (.int .i64 (k - 1)),
    binV .gtr (.int .i64 k) (.int .i64 ((s).size : Int)) = some (.bool false),
    binV .lss (.int .i64 k) (.int .i64 0) = some (.bool false)]) (by kernel_rfl) ?_
  exact ⟨(c32 (by assumption)),
    (c32 (by assumption)),
    (Fx.sub_sub (by omega) (by omega)),
    (Fx.gtr_f (by omega)),
    (Fx.lss_f (by omega)),
    trivial⟩

/- 26 steps -/
set_option maxHeartbeats 4000000 in
theorem m15k7d (s : ByteArray) (k : Int) (h : AH) (hs : s.size ≤ 9223372036854775807) (h0 : 0 ≤ k) (h1 : k ≤ s.size) (hx : wd s (k - 1) = true) (hy : wd s k = true) : Ev Tryz.prog tbl 15 [(.int .i64 7), (.string s), (.int .i64 k)] h ((.bool true), h) := by
  refine Ev.ofH (n := 200) (hs := [(2, (.q (.bool false))), (4, (.q (.bool false))), (16, (.q (.int .i64 (k - 1)))), (0, (.x (.bool true) h)), (2, (.x (.bool true) h))]) (cs := [lim Tryz.prog tbl 32 [(.string s), (.int .i64 k)] h = some ((.bool true), h),
    lim Tryz.prog tbl 32 [(.string s), (.int .i64 (k - 1))] h = some ((.bool true), h),
    binV .sub (.int .i64 k) (.int .i64 1) = some (.int .i64 (k - 1)),
    binV .gtr (.int .i64 k) (.int .i64 ((s).size : Int)) = some (.bool false),
    binV .lss (.int .i64 k) (.int .i64 0) = some (.bool false)]) (by kernel_rfl) ?_
  exact ⟨(c32 (by assumption)),
    (c32 (by assumption)),
    (Fx.sub_sub (by omega) (by omega)),
    (Fx.gtr_f (by omega)),
    (Fx.lss_f (by omega)),
    trivial⟩

/- 15 steps -/
set_option maxHeartbeats 4000000 in
theorem m15o (kind : Int) (s : ByteArray) (k : Int) (h : AH) (hs : s.size ≤ 9223372036854775807) (h0 : 0 ≤ k) (h1 : k ≤ s.size) (e2 : ¬ kind = 2) (e3 : ¬ kind = 3) (e4 : ¬ kind = 4) (e5 : ¬ kind = 5) (e6 : ¬ kind = 6) (e7 : ¬ kind = 7) : Ev Tryz.prog tbl 15 [(.int .i64 kind), (.string s), (.int .i64 k)] h ((.bool false), h) := by
  refine Ev.ofH (n := 200) (hs := [(2, (.q (.bool false))), (4, (.q (.bool false))), (2, (.q (.bool false))), (1, (.q (.bool false))), (1, (.q (.bool false))), (1, (.q (.bool false))), (1, (.q (.bool false))), (1, (.q (.bool false)))]) (cs := [binV .eql (.int .i64 kind) (.int .i64 7) = some (.bool false),
    binV .eql (.int .i64 kind) (.int .i64 6) = some (.bool false),
    binV .eql (.int .i64 kind) (.int .i64 5) = some (.bool false),
    binV .eql (.int .i64 kind) (.int .i64 4) = some (.bool false),
    binV .eql (.int .i64 kind) (.int .i64 3) = some (.bool false),
    binV .eql (.int .i64 kind) (.int .i64 2) = some (.bool false),
    binV .gtr (.int .i64 k) (.int .i64 ((s).size : Int)) = some (.bool false),
    binV .lss (.int .i64 k) (.int .i64 0) = some (.bool false)]) (by kernel_rfl) ?_
  exact ⟨(Fx.eql_f (by omega)),
    (Fx.eql_f (by omega)),
    (Fx.eql_f (by omega)),
    (Fx.eql_f (by omega)),
    (Fx.eql_f (by omega)),
    (Fx.eql_f (by omega)),
    (Fx.gtr_f (by omega)),
    (Fx.lss_f (by omega)),
    trivial⟩

/- 5 steps -/
set_option maxHeartbeats 4000000 in
theorem m16a (kind : Int) (s : ByteArray) (k : Int) (h : AH) (hs : s.size ≤ 9223372036854775807) (h0 : k < 0) : Ev Tryz.prog tbl 16 [(.int .i64 kind), (.string s), (.int .i64 k)] h ((.bool false), h) := by
  refine Ev.ofH (n := 200) (hs := [(2, (.q (.bool true)))]) (cs := [binV .lss (.int .i64 k) (.int .i64 0) = some (.bool true)]) (by kernel_rfl) ?_
  exact ⟨(Fx.lss_t (by omega)),
    trivial⟩

/- 8 steps -/
set_option maxHeartbeats 4000000 in
theorem m16b (kind : Int) (s : ByteArray) (k : Int) (h : AH) (hs : s.size ≤ 9223372036854775807) (h0 : 0 ≤ k) (h1 : s.size < k) : Ev Tryz.prog tbl 16 [(.int .i64 kind), (.string s), (.int .i64 k)] h ((.bool false), h) := by
  refine Ev.ofH (n := 200) (hs := [(2, (.q (.bool false))), (4, (.q (.bool true)))]) (cs := [binV .gtr (.int .i64 k) (.int .i64 ((s).size : Int)) = some (.bool true),
    binV .lss (.int .i64 k) (.int .i64 0) = some (.bool false)]) (by kernel_rfl) ?_
  exact ⟨(Fx.gtr_t (by omega)),
    (Fx.lss_f (by omega)),
    trivial⟩

/- 18 steps -/
set_option maxHeartbeats 4000000 in
theorem m16k2a (s : ByteArray) (k : Int) (h : AH) (hs : s.size ≤ 9223372036854775807) (h0 : 0 ≤ k) (h1 : k ≤ s.size) (e : k = 0) : Ev Tryz.prog tbl 16 [(.int .i64 2), (.string s), (.int .i64 k)] h ((.bool true), h) := by
  refine Ev.ofH (n := 200) (hs := [(2, (.q (.bool false))), (4, (.q (.bool false))), (3, (.q (.int .i64 (k - 1)))), (0, (.x (.bool (wd s (k - 1))) h)), (2, (.x (.bool (wd s k)) h)), (6, (.q (.bool true)))]) (cs := [binV .eql (.int .i64 k) (.int .i64 0) = some (.bool true),
    lim Tryz.prog tbl 33 [(.string s), (.int .i64 k)] h = some ((.bool (wd s k)), h),
    lim Tryz.prog tbl 33 [(.string s), (.int .i64 (k - 1))] h = some ((.bool (wd s (k - 1))), h),
    binV .sub (.int .i64 k) (.int .i64 1) = some (.int .i64 (k - 1)),
    binV .gtr (.int .i64 k) (.int .i64 ((s).size : Int)) = some (.bool false),
    binV .lss (.int .i64 k) (.int .i64 0) = some (.bool false)]) (by kernel_rfl) ?_
  exact ⟨(Fx.eql_t (by omega)),
    (l33 _ _ _),
    (l33 _ _ _),
    (Fx.sub_sub (by omega) (by omega)),
    (Fx.gtr_f (by omega)),
    (Fx.lss_f (by omega)),
    trivial⟩

/- 18 steps -/
set_option maxHeartbeats 4000000 in
theorem m16k2b (s : ByteArray) (k : Int) (h : AH) (hs : s.size ≤ 9223372036854775807) (h0 : 0 ≤ k) (h1 : k ≤ s.size) (e : ¬ k = 0) : Ev Tryz.prog tbl 16 [(.int .i64 2), (.string s), (.int .i64 k)] h ((.bool false), h) := by
  refine Ev.ofH (n := 200) (hs := [(2, (.q (.bool false))), (4, (.q (.bool false))), (3, (.q (.int .i64 (k - 1)))), (0, (.x (.bool (wd s (k - 1))) h)), (2, (.x (.bool (wd s k)) h)), (6, (.q (.bool false)))]) (cs := [binV .eql (.int .i64 k) (.int .i64 0) = some (.bool false),
    lim Tryz.prog tbl 33 [(.string s), (.int .i64 k)] h = some ((.bool (wd s k)), h),
    lim Tryz.prog tbl 33 [(.string s), (.int .i64 (k - 1))] h = some ((.bool (wd s (k - 1))), h),
    binV .sub (.int .i64 k) (.int .i64 1) = some (.int .i64 (k - 1)),
    binV .gtr (.int .i64 k) (.int .i64 ((s).size : Int)) = some (.bool false),
    binV .lss (.int .i64 k) (.int .i64 0) = some (.bool false)]) (by kernel_rfl) ?_
  exact ⟨(Fx.eql_f (by omega)),
    (l33 _ _ _),
    (l33 _ _ _),
    (Fx.sub_sub (by omega) (by omega)),
    (Fx.gtr_f (by omega)),
    (Fx.lss_f (by omega)),
    trivial⟩

/- 22 steps -/
set_option maxHeartbeats 4000000 in
theorem m16k3a (s : ByteArray) (k : Int) (h : AH) (hs : s.size ≤ 9223372036854775807) (h0 : 0 ≤ k) (h1 : k ≤ s.size) (e : k = s.size) : Ev Tryz.prog tbl 16 [(.int .i64 3), (.string s), (.int .i64 k)] h ((.bool true), h) := by
  refine Ev.ofH (n := 200) (hs := [(2, (.q (.bool false))), (4, (.q (.bool false))), (3, (.q (.int .i64 (k - 1)))), (0, (.x (.bool (wd s (k - 1))) h)), (2, (.x (.bool (wd s k)) h)), (10, (.q (.bool true)))]) (cs := [binV .eql (.int .i64 k) (.int .i64 ((s).size : Int)) = some (.bool true),
    lim Tryz.prog tbl 33 [(.string s), (.int .i64 k)] h = some ((.bool (wd s k)), h),
    lim Tryz.prog tbl 33 [(.string s), (.int .i64 (k - 1))] h = some ((.bool (wd s (k - 1))), h),
    binV .sub (.int .i64 k) (.int .i64 1) = some (.int .i64 (k - 1)),
    binV .gtr (.int .i64 k) (.int .i64 ((s).size : Int)) = some (.bool false),
    binV .lss (.int .i64 k) (.int .i64 0) = some (.bool false)]) (by kernel_rfl) ?_
  exact ⟨(Fx.eql_t (by omega)),
    (l33 _ _ _),
    (l33 _ _ _),
    (Fx.sub_sub (by omega) (by omega)),
    (Fx.gtr_f (by omega)),
    (Fx.lss_f (by omega)),
    trivial⟩

/- 22 steps -/
set_option maxHeartbeats 4000000 in
theorem m16k3b (s : ByteArray) (k : Int) (h : AH) (hs : s.size ≤ 9223372036854775807) (h0 : 0 ≤ k) (h1 : k ≤ s.size) (e : ¬ k = s.size) : Ev Tryz.prog tbl 16 [(.int .i64 3), (.string s), (.int .i64 k)] h ((.bool false), h) := by
  refine Ev.ofH (n := 200) (hs := [(2, (.q (.bool false))), (4, (.q (.bool false))), (3, (.q (.int .i64 (k - 1)))), (0, (.x (.bool (wd s (k - 1))) h)), (2, (.x (.bool (wd s k)) h)), (10, (.q (.bool false)))]) (cs := [binV .eql (.int .i64 k) (.int .i64 ((s).size : Int)) = some (.bool false),
    lim Tryz.prog tbl 33 [(.string s), (.int .i64 k)] h = some ((.bool (wd s k)), h),
    lim Tryz.prog tbl 33 [(.string s), (.int .i64 (k - 1))] h = some ((.bool (wd s (k - 1))), h),
    binV .sub (.int .i64 k) (.int .i64 1) = some (.int .i64 (k - 1)),
    binV .gtr (.int .i64 k) (.int .i64 ((s).size : Int)) = some (.bool false),
    binV .lss (.int .i64 k) (.int .i64 0) = some (.bool false)]) (by kernel_rfl) ?_
  exact ⟨(Fx.eql_f (by omega)),
    (l33 _ _ _),
    (l33 _ _ _),
    (Fx.sub_sub (by omega) (by omega)),
    (Fx.gtr_f (by omega)),
    (Fx.lss_f (by omega)),
    trivial⟩

/- 24 steps -/
set_option maxHeartbeats 4000000 in
theorem m16k4a (s : ByteArray) (k : Int) (h : AH) (hs : s.size ≤ 9223372036854775807) (h0 : 0 ≤ k) (h1 : k ≤ s.size) (e : k = 0) : Ev Tryz.prog tbl 16 [(.int .i64 4), (.string s), (.int .i64 k)] h ((.bool true), h) := by
  refine Ev.ofH (n := 200) (hs := [(2, (.q (.bool false))), (4, (.q (.bool false))), (3, (.q (.int .i64 (k - 1)))), (0, (.x (.bool (wd s (k - 1))) h)), (2, (.x (.bool (wd s k)) h)), (10, (.q (.bool true)))]) (cs := [binV .eql (.int .i64 k) (.int .i64 0) = some (.bool true),
    lim Tryz.prog tbl 33 [(.string s), (.int .i64 k)] h = some ((.bool (wd s k)), h),
    lim Tryz.prog tbl 33 [(.string s), (.int .i64 (k - 1))] h = some ((.bool (wd s (k - 1))), h),
    binV .sub (.int .i64 k) (.int .i64 1) = some (.int .i64 (k - 1)),
    binV .gtr (.int .i64 k) (.int .i64 ((s).size : Int)) = some (.bool false),
    binV .lss (.int .i64 k) (.int .i64 0) = some (.bool false)]) (by kernel_rfl) ?_
  exact ⟨(Fx.eql_t (by omega)),
    (l33 _ _ _),
    (l33 _ _ _),
    (Fx.sub_sub (by omega) (by omega)),
    (Fx.gtr_f (by omega)),
    (Fx.lss_f (by omega)),
    trivial⟩

/- 26 steps -/
set_option maxHeartbeats 4000000 in
theorem m16k4b (s : ByteArray) (k : Int) (h : AH) (hs : s.size ≤ 9223372036854775807) (h0 : 0 ≤ k) (h1 : k ≤ s.size) (e : ¬ k = 0) (hb : byteAt s (k - 1) = 10) : Ev Tryz.prog tbl 16 [(.int .i64 4), (.string s), (.int .i64 k)] h ((.bool true), h) := by
  refine Ev.ofH (n := 200) (hs := [(2, (.q (.bool false))), (4, (.q (.bool false))), (3, (.q (.int .i64 (k - 1)))), (0, (.x (.bool (wd s (k - 1))) h)), (2, (.x (.bool (wd s k)) h)), (10, (.q (.bool false))), (3, (.q (.int .i64 (k - 1)))), (0, (.q (.int .u8 (byteAt s (k - 1))))), (0, (.q (.bool true)))]) (cs := [binV .eql (.int .u8 (byteAt s (k - 1))) (.int .u8 10) = some (.bool true),
    (if 0 ≤ ((k - 1) : Int) then ((ByteArray.data s).toList[Int.toNat (k - 1)]?).map (fun b => (.int .u8 b.toNat : Value)) else none) = some (.int .u8 (byteAt s (k - 1))),
    binV .sub (.int .i64 k) (.int .i64 1) = some (.int .i64 (k - 1)),
    binV .eql (.int .i64 k) (.int .i64 0) = some (.bool false),
    lim Tryz.prog tbl 33 [(.string s), (.int .i64 k)] h = some ((.bool (wd s k)), h),
    lim Tryz.prog tbl 33 [(.string s), (.int .i64 (k - 1))] h = some ((.bool (wd s (k - 1))), h),
    binV .sub (.int .i64 k) (.int .i64 1) = some (.int .i64 (k - 1)),
    binV .gtr (.int .i64 k) (.int .i64 ((s).size : Int)) = some (.bool false),
    binV .lss (.int .i64 k) (.int .i64 0) = some (.bool false)]) (by kernel_rfl) ?_
  exact ⟨(Fx.eql_t (by omega)),
    (Fx.index (by omega) (by omega)),
    (Fx.sub_sub (by omega) (by omega)),
    (Fx.eql_f (by omega)),
    (l33 _ _ _),
    (l33 _ _ _),
    (Fx.sub_sub (by omega) (by omega)),
    (Fx.gtr_f (by omega)),
    (Fx.lss_f (by omega)),
    trivial⟩

/- 26 steps -/
set_option maxHeartbeats 4000000 in
theorem m16k4c (s : ByteArray) (k : Int) (h : AH) (hs : s.size ≤ 9223372036854775807) (h0 : 0 ≤ k) (h1 : k ≤ s.size) (e : ¬ k = 0) (hb : ¬ byteAt s (k - 1) = 10) : Ev Tryz.prog tbl 16 [(.int .i64 4), (.string s), (.int .i64 k)] h ((.bool false), h) := by
  refine Ev.ofH (n := 200) (hs := [(2, (.q (.bool false))), (4, (.q (.bool false))), (3, (.q (.int .i64 (k - 1)))), (0, (.x (.bool (wd s (k - 1))) h)), (2, (.x (.bool (wd s k)) h)), (10, (.q (.bool false))), (3, (.q (.int .i64 (k - 1)))), (0, (.q (.int .u8 (byteAt s (k - 1))))), (0, (.q (.bool false)))]) (cs := [binV .eql (.int .u8 (byteAt s (k - 1))) (.int .u8 10) = some (.bool false),
    (if 0 ≤ ((k - 1) : Int) then ((ByteArray.data s).toList[Int.toNat (k - 1)]?).map (fun b => (.int .u8 b.toNat : Value)) else none) = some (.int .u8 (byteAt s (k - 1))),
    binV .sub (.int .i64 k) (.int .i64 1) = some (.int .i64 (k - 1)),
    binV .eql (.int .i64 k) (.int .i64 0) = some (.bool false),
    lim Tryz.prog tbl 33 [(.string s), (.int .i64 k)] h = some ((.bool (wd s k)), h),
    lim Tryz.prog tbl 33 [(.string s), (.int .i64 (k - 1))] h = some ((.bool (wd s (k - 1))), h),
    binV .sub (.int .i64 k) (.int .i64 1) = some (.int .i64 (k - 1)),
    binV .gtr (.int .i64 k) (.int .i64 ((s).size : Int)) = some (.bool false),
    binV .lss (.int .i64 k) (.int .i64 0) = some (.bool false)]) (by kernel_rfl) ?_
  exact ⟨(Fx.eql_f (by omega)),
    (Fx.index (by omega) (by omega)),
    (Fx.sub_sub (by omega) (by omega)),
    (Fx.eql_f (by omega)),
    (l33 _ _ _),
    (l33 _ _ _),
    (Fx.sub_sub (by omega) (by omega)),
    (Fx.gtr_f (by omega)),
    (Fx.lss_f (by omega)),
    trivial⟩

/- 28 steps -/
set_option maxHeartbeats 4000000 in
theorem m16k5a (s : ByteArray) (k : Int) (h : AH) (hs : s.size ≤ 9223372036854775807) (h0 : 0 ≤ k) (h1 : k ≤ s.size) (e : k = s.size) : Ev Tryz.prog tbl 16 [(.int .i64 5), (.string s), (.int .i64 k)] h ((.bool true), h) := by
  refine Ev.ofH (n := 200) (hs := [(2, (.q (.bool false))), (4, (.q (.bool false))), (3, (.q (.int .i64 (k - 1)))), (0, (.x (.bool (wd s (k - 1))) h)), (2, (.x (.bool (wd s k)) h)), (14, (.q (.bool true)))]) (cs := [binV .eql (.int .i64 k) (.int .i64 ((s).size : Int)) = some (.bool true),
    lim Tryz.prog tbl 33 [(.string s), (.int .i64 k)] h = some ((.bool (wd s k)), h),
    lim Tryz.prog tbl 33 [(.string s), (.int .i64 (k - 1))] h = some ((.bool (wd s (k - 1))), h),
    binV .sub (.int .i64 k) (.int .i64 1) = some (.int .i64 (k - 1)),
    binV .gtr (.int .i64 k) (.int .i64 ((s).size : Int)) = some (.bool false),
    binV .lss (.int .i64 k) (.int .i64 0) = some (.bool false)]) (by kernel_rfl) ?_
  exact ⟨(Fx.eql_t (by omega)),
    (l33 _ _ _),
    (l33 _ _ _),
    (Fx.sub_sub (by omega) (by omega)),
    (Fx.gtr_f (by omega)),
    (Fx.lss_f (by omega)),
    trivial⟩

/- 30 steps -/
set_option maxHeartbeats 4000000 in
theorem m16k5b (s : ByteArray) (k : Int) (h : AH) (hs : s.size ≤ 9223372036854775807) (h0 : 0 ≤ k) (h1 : k ≤ s.size) (e : ¬ k = s.size) (hb : byteAt s k = 10) : Ev Tryz.prog tbl 16 [(.int .i64 5), (.string s), (.int .i64 k)] h ((.bool true), h) := by
  refine Ev.ofH (n := 200) (hs := [(2, (.q (.bool false))), (4, (.q (.bool false))), (3, (.q (.int .i64 (k - 1)))), (0, (.x (.bool (wd s (k - 1))) h)), (2, (.x (.bool (wd s k)) h)), (14, (.q (.bool false))), (3, (.q (.int .u8 (byteAt s k)))), (0, (.q (.bool true)))]) (cs := [binV .eql (.int .u8 (byteAt s k)) (.int .u8 10) = some (.bool true),
    (if 0 ≤ (k : Int) then ((ByteArray.data s).toList[Int.toNat k]?).map (fun b => (.int .u8 b.toNat : Value)) else none) = some (.int .u8 (byteAt s k)),
    binV .eql (.int .i64 k) (.int .i64 ((s).size : Int)) = some (.bool false),
    lim Tryz.prog tbl 33 [(.string s), (.int .i64 k)] h = some ((.bool (wd s k)), h),
    lim Tryz.prog tbl 33 [(.string s), (.int .i64 (k - 1))] h = some ((.bool (wd s (k - 1))), h),
    binV .sub (.int .i64 k) (.int .i64 1) = some (.int .i64 (k - 1)),
    binV .gtr (.int .i64 k) (.int .i64 ((s).size : Int)) = some (.bool false),
    binV .lss (.int .i64 k) (.int .i64 0) = some (.bool false)]) (by kernel_rfl) ?_
  exact ⟨(Fx.eql_t (by omega)),
    (Fx.index (by omega) (by omega)),
    (Fx.eql_f (by omega)),
    (l33 _ _ _),
    (l33 _ _ _),
    (Fx.sub_sub (by omega) (by omega)),
    (Fx.gtr_f (by omega)),
    (Fx.lss_f (by omega)),
    trivial⟩

/- 30 steps -/
set_option maxHeartbeats 4000000 in
theorem m16k5c (s : ByteArray) (k : Int) (h : AH) (hs : s.size ≤ 9223372036854775807) (h0 : 0 ≤ k) (h1 : k ≤ s.size) (e : ¬ k = s.size) (hb : ¬ byteAt s k = 10) : Ev Tryz.prog tbl 16 [(.int .i64 5), (.string s), (.int .i64 k)] h ((.bool false), h) := by
  refine Ev.ofH (n := 200) (hs := [(2, (.q (.bool false))), (4, (.q (.bool false))), (3, (.q (.int .i64 (k - 1)))), (0, (.x (.bool (wd s (k - 1))) h)), (2, (.x (.bool (wd s k)) h)), (14, (.q (.bool false))), (3, (.q (.int .u8 (byteAt s k)))), (0, (.q (.bool false)))]) (cs := [binV .eql (.int .u8 (byteAt s k)) (.int .u8 10) = some (.bool false),
    (if 0 ≤ (k : Int) then ((ByteArray.data s).toList[Int.toNat k]?).map (fun b => (.int .u8 b.toNat : Value)) else none) = some (.int .u8 (byteAt s k)),
    binV .eql (.int .i64 k) (.int .i64 ((s).size : Int)) = some (.bool false),
    lim Tryz.prog tbl 33 [(.string s), (.int .i64 k)] h = some ((.bool (wd s k)), h),
    lim Tryz.prog tbl 33 [(.string s), (.int .i64 (k - 1))] h = some ((.bool (wd s (k - 1))), h),
    binV .sub (.int .i64 k) (.int .i64 1) = some (.int .i64 (k - 1)),
    binV .gtr (.int .i64 k) (.int .i64 ((s).size : Int)) = some (.bool false),
    binV .lss (.int .i64 k) (.int .i64 0) = some (.bool false)]) (by kernel_rfl) ?_
  exact ⟨(Fx.eql_f (by omega)),
    (Fx.index (by omega) (by omega)),
    (Fx.eql_f (by omega)),
    (l33 _ _ _),
    (l33 _ _ _),
    (Fx.sub_sub (by omega) (by omega)),
    (Fx.gtr_f (by omega)),
    (Fx.lss_f (by omega)),
    trivial⟩

/- 26 steps -/
set_option maxHeartbeats 4000000 in
theorem m16k6a (s : ByteArray) (k : Int) (h : AH) (hs : s.size ≤ 9223372036854775807) (h0 : 0 ≤ k) (h1 : k ≤ s.size) (hx : wd s (k - 1) = false) (hy : wd s k = false) : Ev Tryz.prog tbl 16 [(.int .i64 6), (.string s), (.int .i64 k)] h ((.bool false), h) := by
  refine Ev.ofH (n := 200) (hs := [(2, (.q (.bool false))), (4, (.q (.bool false))), (3, (.q (.int .i64 (k - 1)))), (0, (.x (.bool false) h)), (2, (.x (.bool false) h))]) (cs := [lim Tryz.prog tbl 33 [(.string s), (.int .i64 k)] h = some ((.bool false), h),
    lim Tryz.prog tbl 33 [(.string s), (.int .i64 (k - 1))] h = some ((.bool false), h),
    binV .sub (.int .i64 k) (.int .i64 1) = some (.int .i64 (k - 1)),
    binV .gtr (.int .i64 k) (.int .i64 ((s).size : Int)) = some (.bool false),
    binV .lss (.int .i64 k) (.int .i64 0) = some (.bool false)]) (by kernel_rfl) ?_
  exact ⟨(c33 (by assumption)),
    (c33 (by assumption)),
    (Fx.sub_sub (by omega) (by omega)),
    (Fx.gtr_f (by omega)),
    (Fx.lss_f (by omega)),
    trivial⟩

/- 26 steps -/
set_option maxHeartbeats 4000000 in
theorem m16k6b (s : ByteArray) (k : Int) (h : AH) (hs : s.size ≤ 9223372036854775807) (h0 : 0 ≤ k) (h1 : k ≤ s.size) (hx : wd s (k - 1) = false) (hy : wd s k = true) : Ev Tryz.prog tbl 16 [(.int .i64 6), (.string s), (.int .i64 k)] h ((.bool true), h) := by
  refine Ev.ofH (n := 200) (hs := [(2, (.q (.bool false))), (4, (.q (.bool false))), (3, (.q (.int .i64 (k - 1)))), (0, (.x (.bool false) h)), (2, (.x (.bool true) h))]) (cs := [lim Tryz.prog tbl 33 [(.string s), (.int .i64 k)] h = some ((.bool true), h),
    lim Tryz.prog tbl 33 [(.string s), (.int .i64 (k - 1))] h = some ((.bool false), h),
    binV .sub (.int .i64 k) (.int .i64 1) = some (.int .i64 (k - 1)),
    binV .gtr (.int .i64 k) (.int .i64 ((s).size : Int)) = some (.bool false),
    binV .lss (.int .i64 k) (.int .i64 0) = some (.bool false)]) (by kernel_rfl) ?_
  exact ⟨(c33 (by assumption)),
    (c33 (by assumption)),
    (Fx.sub_sub (by omega) (by omega)),
    (Fx.gtr_f (by omega)),
    (Fx.lss_f (by omega)),
    trivial⟩

/- 26 steps -/
set_option maxHeartbeats 4000000 in
theorem m16k6c (s : ByteArray) (k : Int) (h : AH) (hs : s.size ≤ 9223372036854775807) (h0 : 0 ≤ k) (h1 : k ≤ s.size) (hx : wd s (k - 1) = true) (hy : wd s k = false) : Ev Tryz.prog tbl 16 [(.int .i64 6), (.string s), (.int .i64 k)] h ((.bool true), h) := by
  refine Ev.ofH (n := 200) (hs := [(2, (.q (.bool false))), (4, (.q (.bool false))), (3, (.q (.int .i64 (k - 1)))), (0, (.x (.bool true) h)), (2, (.x (.bool false) h))]) (cs := [lim Tryz.prog tbl 33 [(.string s), (.int .i64 k)] h = some ((.bool false), h),
    lim Tryz.prog tbl 33 [(.string s), (.int .i64 (k - 1))] h = some ((.bool true), h),
    binV .sub (.int .i64 k) (.int .i64 1) = some (.int .i64 (k - 1)),
    binV .gtr (.int .i64 k) (.int .i64 ((s).size : Int)) = some (.bool false),
    binV .lss (.int .i64 k) (.int .i64 0) = some (.bool false)]) (by kernel_rfl) ?_
  exact ⟨(c33 (by assumption)),
    (c33 (by assumption)),
    (Fx.sub_sub (by omega) (by omega)),
    (Fx.gtr_f (by omega)),
    (Fx.lss_f (by omega)),
    trivial⟩

/- 26 steps -/
set_option maxHeartbeats 4000000 in
theorem m16k6d (s : ByteArray) (k : Int) (h : AH) (hs : s.size ≤ 9223372036854775807) (h0 : 0 ≤ k) (h1 : k ≤ s.size) (hx : wd s (k - 1) = true) (hy : wd s k = true) : Ev Tryz.prog tbl 16 [(.int .i64 6), (.string s), (.int .i64 k)] h ((.bool false), h) := by
  refine Ev.ofH (n := 200) (hs := [(2, (.q (.bool false))), (4, (.q (.bool false))), (3, (.q (.int .i64 (k - 1)))), (0, (.x (.bool true) h)), (2, (.x (.bool true) h))]) (cs := [lim Tryz.prog tbl 33 [(.string s), (.int .i64 k)] h = some ((.bool true), h),
    lim Tryz.prog tbl 33 [(.string s), (.int .i64 (k - 1))] h = some ((.bool true), h),
    binV .sub (.int .i64 k) (.int .i64 1) = some (.int .i64 (k - 1)),
    binV .gtr (.int .i64 k) (.int .i64 ((s).size : Int)) = some (.bool false),
    binV .lss (.int .i64 k) (.int .i64 0) = some (.bool false)]) (by kernel_rfl) ?_
  exact ⟨(c33 (by assumption)),
    (c33 (by assumption)),
    (Fx.sub_sub (by omega) (by omega)),
    (Fx.gtr_f (by omega)),
    (Fx.lss_f (by omega)),
    trivial⟩

/- 29 steps -/
set_option maxHeartbeats 4000000 in
theorem m16k7a (s : ByteArray) (k : Int) (h : AH) (hs : s.size ≤ 9223372036854775807) (h0 : 0 ≤ k) (h1 : k ≤ s.size) (hx : wd s (k - 1) = false) (hy : wd s k = false) : Ev Tryz.prog tbl 16 [(.int .i64 7), (.string s), (.int .i64 k)] h ((.bool true), h) := by
  refine Ev.ofH (n := 200) (hs := [(2, (.q (.bool false))), (4, (.q (.bool false))), (3, (.q (.int .i64 (k - 1)))), (0, (.x (.bool false) h)), (2, (.x (.bool false) h))]) (cs := [lim Tryz.prog tbl 33 [(.string s), (.int .i64 k)] h = some ((.bool false), h),
    lim Tryz.prog tbl 33 [(.string s), (.int .i64 (k - 1))] h = some ((.bool false), h),
    binV .sub (.int .i64 k) (.int .i64 1) = some (.int .i64 (k - 1)),
    binV .gtr (.int .i64 k) (.int .i64 ((s).size : Int)) = some (.bool false),
    binV .lss (.int .i64 k) (.int .i64 0) = some (.bool false)]) (by kernel_rfl) ?_
  exact ⟨(c33 (by assumption)),
    (c33 (by assumption)),
    (Fx.sub_sub (by omega) (by omega)),
    (Fx.gtr_f (by omega)),
    (Fx.lss_f (by omega)),
    trivial⟩

/- 29 steps -/
set_option maxHeartbeats 4000000 in
theorem m16k7b (s : ByteArray) (k : Int) (h : AH) (hs : s.size ≤ 9223372036854775807) (h0 : 0 ≤ k) (h1 : k ≤ s.size) (hx : wd s (k - 1) = false) (hy : wd s k = true) : Ev Tryz.prog tbl 16 [(.int .i64 7), (.string s), (.int .i64 k)] h ((.bool false), h) := by
  refine Ev.ofH (n := 200) (hs := [(2, (.q (.bool false))), (4, (.q (.bool false))), (3, (.q (.int .i64 (k - 1)))), (0, (.x (.bool false) h)), (2, (.x (.bool true) h))]) (cs := [lim Tryz.prog tbl 33 [(.string s), (.int .i64 k)] h = some ((.bool true), h),
    lim Tryz.prog tbl 33 [(.string s), (.int .i64 (k - 1))] h = some ((.bool false), h),
    binV .sub (.int .i64 k) (.int .i64 1) = some (.int .i64 (k - 1)),
    binV .gtr (.int .i64 k) (.int .i64 ((s).size : Int)) = some (.bool false),
    binV .lss (.int .i64 k) (.int .i64 0) = some (.bool false)]) (by kernel_rfl) ?_
  exact ⟨(c33 (by assumption)),
    (c33 (by assumption)),
    (Fx.sub_sub (by omega) (by omega)),
    (Fx.gtr_f (by omega)),
    (Fx.lss_f (by omega)),
    trivial⟩

/- 29 steps -/
set_option maxHeartbeats 4000000 in
theorem m16k7c (s : ByteArray) (k : Int) (h : AH) (hs : s.size ≤ 9223372036854775807) (h0 : 0 ≤ k) (h1 : k ≤ s.size) (hx : wd s (k - 1) = true) (hy : wd s k = false) : Ev Tryz.prog tbl 16 [(.int .i64 7), (.string s), (.int .i64 k)] h ((.bool false), h) := by
  refine Ev.ofH (n := 200) (hs := [(2, (.q (.bool false))), (4, (.q (.bool false))), (3, (.q (.int .i64 (k - 1)))), (0, (.x (.bool true) h)), (2, (.x (.bool false) h))]) (cs := [lim Tryz.prog tbl 33 [(.string s), (.int .i64 k)] h = some ((.bool false), h),
    lim Tryz.prog tbl 33 [(.string s), (.int .i64 (k - 1))] h = some ((.bool true), h),
    binV .sub (.int .i64 k) (.int .i64 1) = some (.int .i64 (k - 1)),
    binV .gtr (.int .i64 k) (.int .i64 ((s).size : Int)) = some (.bool false),
    binV .lss (.int .i64 k) (.int .i64 0) = some (.bool false)]) (by kernel_rfl) ?_
  exact ⟨(c33 (by assumption)),
    (c33 (by assumption)),
    (Fx.sub_sub (by omega) (by omega)),
    (Fx.gtr_f (by omega)),
    (Fx.lss_f (by omega)),
    trivial⟩

/- 29 steps -/
set_option maxHeartbeats 4000000 in
theorem m16k7d (s : ByteArray) (k : Int) (h : AH) (hs : s.size ≤ 9223372036854775807) (h0 : 0 ≤ k) (h1 : k ≤ s.size) (hx : wd s (k - 1) = true) (hy : wd s k = true) : Ev Tryz.prog tbl 16 [(.int .i64 7), (.string s), (.int .i64 k)] h ((.bool true), h) := by
  refine Ev.ofH (n := 200) (hs := [(2, (.q (.bool false))), (4, (.q (.bool false))), (3, (.q (.int .i64 (k - 1)))), (0, (.x (.bool true) h)), (2, (.x (.bool true) h))]) (cs := [lim Tryz.prog tbl 33 [(.string s), (.int .i64 k)] h = some ((.bool true), h),
    lim Tryz.prog tbl 33 [(.string s), (.int .i64 (k - 1))] h = some ((.bool true), h),
    binV .sub (.int .i64 k) (.int .i64 1) = some (.int .i64 (k - 1)),
    binV .gtr (.int .i64 k) (.int .i64 ((s).size : Int)) = some (.bool false),
    binV .lss (.int .i64 k) (.int .i64 0) = some (.bool false)]) (by kernel_rfl) ?_
  exact ⟨(c33 (by assumption)),
    (c33 (by assumption)),
    (Fx.sub_sub (by omega) (by omega)),
    (Fx.gtr_f (by omega)),
    (Fx.lss_f (by omega)),
    trivial⟩

/- 21 steps -/
set_option maxHeartbeats 4000000 in
theorem m16o (kind : Int) (s : ByteArray) (k : Int) (h : AH) (hs : s.size ≤ 9223372036854775807) (h0 : 0 ≤ k) (h1 : k ≤ s.size) (e2 : ¬ kind = 2) (e3 : ¬ kind = 3) (e4 : ¬ kind = 4) (e5 : ¬ kind = 5) (e6 : ¬ kind = 6) (e7 : ¬ kind = 7) : Ev Tryz.prog tbl 16 [(.int .i64 kind), (.string s), (.int .i64 k)] h ((.bool false), h) := by
  refine Ev.ofH (n := 200) (hs := [(2, (.q (.bool false))), (4, (.q (.bool false))), (3, (.q (.int .i64 (k - 1)))), (0, (.x (.bool (wd s (k - 1))) h)), (2, (.x (.bool (wd s k)) h)), (3, (.q (.bool false))), (1, (.q (.bool false))), (1, (.q (.bool false))), (1, (.q (.bool false))), (1, (.q (.bool false))), (1, (.q (.bool false)))]) (cs := [binV .eql (.int .i64 kind) (.int .i64 7) = some (.bool false),
    binV .eql (.int .i64 kind) (.int .i64 6) = some (.bool false),
    binV .eql (.int .i64 kind) (.int .i64 5) = some (.bool false),
    binV .eql (.int .i64 kind) (.int .i64 4) = some (.bool false),
    binV .eql (.int .i64 kind) (.int .i64 3) = some (.bool false),
    binV .eql (.int .i64 kind) (.int .i64 2) = some (.bool false),
    lim Tryz.prog tbl 33 [(.string s), (.int .i64 k)] h = some ((.bool (wd s k)), h),
    lim Tryz.prog tbl 33 [(.string s), (.int .i64 (k - 1))] h = some ((.bool (wd s (k - 1))), h),
    binV .sub (.int .i64 k) (.int .i64 1) = some (.int .i64 (k - 1)),
    binV .gtr (.int .i64 k) (.int .i64 ((s).size : Int)) = some (.bool false),
    binV .lss (.int .i64 k) (.int .i64 0) = some (.bool false)]) (by kernel_rfl) ?_
  exact ⟨(Fx.eql_f (by omega)),
    (Fx.eql_f (by omega)),
    (Fx.eql_f (by omega)),
    (Fx.eql_f (by omega)),
    (Fx.eql_f (by omega)),
    (Fx.eql_f (by omega)),
    (l33 _ _ _),
    (l33 _ _ _),
    (Fx.sub_sub (by omega) (by omega)),
    (Fx.gtr_f (by omega)),
    (Fx.lss_f (by omega)),
    trivial⟩

/-- does a border hold? -/
def hold (kind : Int) (s : ByteArray) (k : Int) : Bool :=
  if k < 0 then false else if (s.size : Int) < k then false else
  if kind = 2 then decide (k = 0) else if kind = 3 then decide (k = s.size)
  else if kind = 4 then decide (k = 0) || decide (byteAt s (k - 1) = 10)
  else if kind = 5 then decide (k = s.size) || decide (byteAt s k = 10)
  else if kind = 6 then wd s (k - 1) != wd s k
  else if kind = 7 then wd s (k - 1) == wd s k
  else false
theorem e15 (kind : Int) (s : ByteArray) (k : Int) (h : AH) (hs : s.size ≤ 9223372036854775807) : Ev Tryz.prog tbl 15 [.int .i64 kind, .string s, .int .i64 k] h (.bool (hold kind s k), h) := by
  unfold hold
  by_cases h0 : k < 0
  · rw [if_pos h0]; exact m15a kind s k h hs h0
  by_cases h1 : (s.size : Int) < k
  · rw [if_neg h0, if_pos h1]; exact m15b kind s k h hs (by omega) h1
  rw [if_neg h0, if_neg h1]
  have g0 : 0 ≤ k := by omega
  have g1 : k ≤ s.size := by omega
  by_cases k2 : kind = 2
  · subst k2
    by_cases e : k = 0
    · simp only [if_true, decide_eq_true e]; exact m15k2a s k h hs g0 g1 e
    · simp only [if_true, decide_eq_false e]; exact m15k2b s k h hs g0 g1 e
  rw [if_neg k2]
  by_cases k3 : kind = 3
  · subst k3
    by_cases e : k = s.size
    · simp only [if_true, decide_eq_true e]; exact m15k3a s k h hs g0 g1 e
    · simp only [if_true, decide_eq_false e]; exact m15k3b s k h hs g0 g1 e
  rw [if_neg k3]
  by_cases k4 : kind = 4
  · subst k4
    by_cases e : k = 0
    · simp only [if_true, decide_eq_true e, Bool.true_or]; exact m15k4a s k h hs g0 g1 e
    by_cases hb : byteAt s (k - 1) = 10
    · simp only [if_true, decide_eq_true hb, Bool.or_true]; exact m15k4b s k h hs g0 g1 e hb
    · simp only [if_true, decide_eq_false hb, decide_eq_false e, Bool.or_false]; exact m15k4c s k h hs g0 g1 e hb
  rw [if_neg k4]
  by_cases k5 : kind = 5
  · subst k5
    by_cases e : k = s.size
    · simp only [if_true, decide_eq_true e, Bool.true_or]; exact m15k5a s k h hs g0 g1 e
    by_cases hb : byteAt s k = 10
    · simp only [if_true, decide_eq_true hb, Bool.or_true]; exact m15k5b s k h hs g0 g1 e hb
    · simp only [if_true, decide_eq_false hb, decide_eq_false e, Bool.or_false]; exact m15k5c s k h hs g0 g1 e hb
  rw [if_neg k5]
  by_cases k6 : kind = 6
  · subst k6
    rw [if_pos rfl]
    cases hx : wd s (k - 1) <;> cases hy : wd s k
    · exact m15k6a s k h hs g0 g1 hx hy
    · exact m15k6b s k h hs g0 g1 hx hy
    · exact m15k6c s k h hs g0 g1 hx hy
    · exact m15k6d s k h hs g0 g1 hx hy
  rw [if_neg k6]
  by_cases k7 : kind = 7
  · subst k7
    rw [if_pos rfl]
    cases hx : wd s (k - 1) <;> cases hy : wd s k
    · exact m15k7a s k h hs g0 g1 hx hy
    · exact m15k7b s k h hs g0 g1 hx hy
    · exact m15k7c s k h hs g0 g1 hx hy
    · exact m15k7d s k h hs g0 g1 hx hy
  rw [if_neg k7]
  exact m15o kind s k h hs g0 g1 k2 k3 k4 k5 k6 k7
theorem e16 (kind : Int) (s : ByteArray) (k : Int) (h : AH) (hs : s.size ≤ 9223372036854775807) : Ev Tryz.prog tbl 16 [.int .i64 kind, .string s, .int .i64 k] h (.bool (hold kind s k), h) := by
  unfold hold
  by_cases h0 : k < 0
  · rw [if_pos h0]; exact m16a kind s k h hs h0
  by_cases h1 : (s.size : Int) < k
  · rw [if_neg h0, if_pos h1]; exact m16b kind s k h hs (by omega) h1
  rw [if_neg h0, if_neg h1]
  have g0 : 0 ≤ k := by omega
  have g1 : k ≤ s.size := by omega
  by_cases k2 : kind = 2
  · subst k2
    by_cases e : k = 0
    · simp only [if_true, decide_eq_true e]; exact m16k2a s k h hs g0 g1 e
    · simp only [if_true, decide_eq_false e]; exact m16k2b s k h hs g0 g1 e
  rw [if_neg k2]
  by_cases k3 : kind = 3
  · subst k3
    by_cases e : k = s.size
    · simp only [if_true, decide_eq_true e]; exact m16k3a s k h hs g0 g1 e
    · simp only [if_true, decide_eq_false e]; exact m16k3b s k h hs g0 g1 e
  rw [if_neg k3]
  by_cases k4 : kind = 4
  · subst k4
    by_cases e : k = 0
    · simp only [if_true, decide_eq_true e, Bool.true_or]; exact m16k4a s k h hs g0 g1 e
    by_cases hb : byteAt s (k - 1) = 10
    · simp only [if_true, decide_eq_true hb, Bool.or_true]; exact m16k4b s k h hs g0 g1 e hb
    · simp only [if_true, decide_eq_false hb, decide_eq_false e, Bool.or_false]; exact m16k4c s k h hs g0 g1 e hb
  rw [if_neg k4]
  by_cases k5 : kind = 5
  · subst k5
    by_cases e : k = s.size
    · simp only [if_true, decide_eq_true e, Bool.true_or]; exact m16k5a s k h hs g0 g1 e
    by_cases hb : byteAt s k = 10
    · simp only [if_true, decide_eq_true hb, Bool.or_true]; exact m16k5b s k h hs g0 g1 e hb
    · simp only [if_true, decide_eq_false hb, decide_eq_false e, Bool.or_false]; exact m16k5c s k h hs g0 g1 e hb
  rw [if_neg k5]
  by_cases k6 : kind = 6
  · subst k6
    rw [if_pos rfl]
    cases hx : wd s (k - 1) <;> cases hy : wd s k
    · exact m16k6a s k h hs g0 g1 hx hy
    · exact m16k6b s k h hs g0 g1 hx hy
    · exact m16k6c s k h hs g0 g1 hx hy
    · exact m16k6d s k h hs g0 g1 hx hy
  rw [if_neg k6]
  by_cases k7 : kind = 7
  · subst k7
    rw [if_pos rfl]
    cases hx : wd s (k - 1) <;> cases hy : wd s k
    · exact m16k7a s k h hs g0 g1 hx hy
    · exact m16k7b s k h hs g0 g1 hx hy
    · exact m16k7c s k h hs g0 g1 hx hy
    · exact m16k7d s k h hs g0 g1 hx hy
  rw [if_neg k7]
  exact m16o kind s k h hs g0 g1 k2 k3 k4 k5 k6 k7
end Go.Am.Zd
