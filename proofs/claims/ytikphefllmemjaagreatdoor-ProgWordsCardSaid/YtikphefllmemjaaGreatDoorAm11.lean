import Derived.Test.YtikphefllmemjaaGreatDoorAm10
import Derived.Laws.AppendOwn
import Derived.Deep.Upon
/-
The engine, part 11: the operations that act: stores, appends, conversions to bytes, maps.
-/
namespace Go.Am
open Go
set_option linter.unusedVariables false
set_option linter.unusedSimpArgs false

def Done (r : Result Next) (v' : Value) (w' : World) : Prop := r = .ok (.value v') w' ∨ (r = .ok .skip w' ∧ v' = undef)

/-- what an act leaves -/
structure Acted (ρ : Ren) (h : AH) (w : World) (v : Value) (h' : AH) (v' : Value) (w' : World) (ρ' : Ren) : Prop where
  val : Rv ρ' v v'
  sim : Sim ρ' h'.get w'
  ext : Ext ρ h.get w ρ' h'.get w'
  next : AH.le h h'
  only : ∀ b, ¬ isNew h h' b → ρ' b = ρ b

section
variable {P : Program} {ρ : Ren} {g : VH} {w : World} {ev : Operand → Value} {ea : Operand → Value} {h h' : AH}

theorem oneC_eq (v : Value) : v.oneCell' = oneC v := by cases v <;> rfl
theorem Rvs.oneC {vs vs' : List Value} (k : Rvs ρ vs vs') (h : vs.all Am.oneC = true) : ∀ v ∈ vs', v.oneCell' = true := by
  induction vs generalizing vs' with
  | nil => rw [k.nil_inv]; simp
  | cons v vs ih =>
    obtain ⟨v', t, rfl, h1, h2⟩ := k.cons_inv
    simp only [List.all_cons, Bool.and_eq_true] at h
    intro u hu
    rcases List.mem_cons.1 hu with rfl | hu
    · rw [oneC_eq, h1.oneC]; exact h.1
    · exact ih h2 h.2 u hu

theorem cell_at {r : Nat} {c : List Value} {e : TypeId} {fr : Nat × Nat} (hh : w.heap[r]? = some (.cells ⟨c⟩ e fr)) (o : Nat) : w.cell? ⟨r, o, none⟩ = c[o]? := by
  simp [World.cell?, hh]
theorem frozen_at {r : Nat} {c : List Value} {e : TypeId} {lo hi : Nat} (hh : w.heap[r]? = some (.cells ⟨c⟩ e (lo, hi))) (o : Nat) : w.frozen? ⟨r, o, none⟩ = (decide (lo ≤ o) && decide (o < hi)) := by
  simp [World.frozen?, hh]

theorem store_sound (hS : Sim ρ h.get w) (n : Nat) (t : TypeId) (hn : cSize P t = some n) (a x : Operand) (ha : Rv ρ (ev a) (ea a)) (hx : Rv ρ (ev x) (ea x)) {v : Value}
    (hv : evalE ev h (.store n a x) = some (v, h')) :
    ∃ w', (Instr.storeAt t (ea a) (ea x)).run P w = .ok () w' ∧ v = undef ∧ Acted ρ h w v h' undef w' ρ := by
  simp only [evalE] at hv
  have h5 : ∃ b o, ev a = .pointer (some ⟨b, o, none⟩) := by
    revert hv; generalize ev a = va; intro hv
    split at hv
    · exact ⟨_, _, rfl⟩
    · cases hv
  obtain ⟨b, o, e1⟩ := h5
  rw [e1] at hv ha
  simp only at hv
  cases hg : h.get b with
  | none => simp [hg] at hv
  | some ob =>
    cases ob with
    | map es cl => simp [hg] at hv
    | cells cs e sp fz =>
      simp only [hg] at hv
      split at hv
      case isFalse => cases hv
      rename_i hc
      obtain ⟨h1, h2, h3, h4⟩ := hc
      simp only [Option.some.injEq, Prod.mk.injEq] at hv
      obtain ⟨rfl, rfl⟩ := hv
      have h6 : ∃ r xx, ea a = .pointer (some ⟨r, o, none⟩) ∧ ρ b = some (r, xx) := by
        generalize ea a = ua at ha; cases ha; exact ⟨_, _, rfl, by assumption⟩
      obtain ⟨r, xx, e2, hb⟩ := h6
      obtain ⟨r', x', o', k1, k2, k3⟩ := hS.blk b _ hg
      rw [hb] at k1; cases k1
      cases k3 with
      | @cells _ cs' rest _ _ _ lo hi k4 k5 k6 =>
        have hxc := hx.cells
        have hlen : (vcells (ea x)).length = n := by rw [← hxc.1]; exact h1
        have hcl : o + n ≤ cs'.length := by rw [← k4.1]; exact h3
        have hst := run_storeCells_cells (P := P) r o (vcells (ea x)) 0 w
          (fun j hj => by rw [cell_at k2]; simp; omega)
          (fun j hj => by
            rw [frozen_at k2]
            simp only [Bool.and_eq_false_iff, decide_eq_false_iff_not]
            by_cases hlo : lo ≤ o + 0 + j
            · right; intro hhi; have := k6 (o + 0 + j) (by omega) hlo hhi; omega
            · left; exact hlo)
          (hxc.oneC (by simpa using h2))
        have he : w.setCells r (o + 0) (vcells (ea x)) = setB w r (.cells ⟨storeL cs' o (vcells (ea x)) ++ rest⟩ e (lo, hi)) := by
          rw [setCells_eq _ _ _ _ k2, Nat.add_zero, storeL_append _ _ _ _ (by omega)]
        have hR : RObj ρ xx (.cells (storeL cs o (vcells (ev x))) e sp fz) (.cells ⟨storeL cs' o (vcells (ea x)) ++ rest⟩ e (lo, hi)) :=
          .cells (storeL_rel k4 o hxc) k5 (by rw [storeL_length]; exact k6)
        obtain ⟨s1, s2⟩ := hS.turn hb hg hR
        refine ⟨setB w r (.cells ⟨storeL cs' o (vcells (ea x)) ++ rest⟩ e (lo, hi)), ?_, rfl, ⟨Rv.undef, ?_, ?_, (by first | exact AH.le_put _ _ _ | exact AH.le_refl _), fun _ _ => rfl⟩⟩
        · simp only [Instr.storeAt, e2, Instr.sureAddr, Sem.run_bind, Sem.run_pure, Result.andThen_ok, storeVar, run_size hn]
          rw [if_neg (by rw [← Array.length_toList, vcells_eq, hlen]; simp)]
          rw [vcells_eq, hst, he]
        · rw [get_put_eq]; exact s1
        · rw [get_put_eq]; exact s2

/-- a block that is known under another number from here on -/
theorem Sim.move (hS : Sim ρ g w) {b r x N x' : Nat} {o0 o : VObj} {o' : Obj} (hb : ρ b = some (r, x)) (hg : g b = some o0) (hN : ρ N = none)
    (hR : RObj (ρ.with N (r, x')) x' o o') :
    Sim (ρ.with N (r, x')) ((g.with b none).with N (some o)) (setB w r o') ∧ Ext ρ g w (ρ.with N (r, x')) ((g.with b none).with N (some o)) (setB w r o') := by
  have hlt := hS.lt hb hg
  have hle := Ren.le_with (p := (r, x')) hN
  have hbN : b ≠ N := fun e => by subst e; rw [hN] at hb; cases hb
  have old : ∀ {c : Nat} {o1 : VObj}, c ≠ N → (g.with b none).with N (some o) c = some o1 → g c = some o1 ∧ c ≠ b := by
    intro c o1 hc h
    unfold VH.with at h
    rw [if_neg hc] at h
    split at h
    · cases h
    · exact ⟨h, ‹_›⟩
  have oldρ : ∀ {c : Nat} {p : Nat × Nat}, c ≠ N → ρ.with N (r, x') c = some p → ρ c = some p := by
    intro c p hc h; unfold Ren.with at h; rwa [if_neg hc] at h
  refine ⟨⟨fun b hb => hle _ _ (hS.fix b hb), fun c o2 hc => ?_, fun c d o1 o2 r2 y z hc hd h1 h2 => ?_⟩, ⟨hle, rfl, rfl, by simp [setB], fun r2 hr hn => ?_, fun c o2 r2 y hc h1 hr => ?_⟩⟩
  · by_cases hcN : c = N
    · subst hcN
      have : o2 = o := by unfold VH.with at hc; rw [if_pos rfl] at hc; cases hc; rfl
      subst this
      exact ⟨r, x', o', Ren.with_same, by rw [setB_heap hlt]; simp, hR⟩
    · obtain ⟨h3, h4⟩ := old hcN hc
      obtain ⟨r2, y, o3, h1, h2, h5⟩ := hS.blk c o2 h3
      refine ⟨r2, y, o3, hle _ _ h1, ?_, h5.mono hle⟩
      rw [setB_heap hlt, if_neg (fun e => by subst e; exact h4 (hS.inj c b _ _ _ y x h3 hg h1 hb))]
      exact h2
  · by_cases hcN : c = N <;> by_cases hdN : d = N
    · rw [hcN, hdN]
    · exfalso
      subst hcN
      obtain ⟨h3, h4⟩ := old hdN hd
      rw [Ren.with_same] at h1
      cases h1
      exact h4 (hS.inj d b _ _ _ z x h3 hg (oldρ hdN h2) hb)
    · exfalso
      subst hdN
      obtain ⟨h3, h4⟩ := old hcN hc
      rw [Ren.with_same] at h2
      cases h2
      exact h4 (hS.inj c b _ _ _ y x h3 hg (oldρ hcN h1) hb)
    · exact hS.inj c d o1 o2 r2 y z (old hcN hc).1 (old hdN hd).1 (oldρ hcN h1) (oldρ hdN h2)
  · rw [setB_heap hlt, if_neg (fun e => by subst e; exact hn b o0 x hg hb)]
  · by_cases hcN : c = N
    · subst hcN
      rw [Ren.with_same] at h1
      cases h1
      exact ⟨b, o0, x, hg, hb⟩
    · exact ⟨c, o2, y, (old hcN hc).1, oldρ hcN h1⟩

theorem src_of (hS : Sim ρ h.get w) {size : Nat} {tx : TypeId} (hk : (∃ e', P.underlying tx = some (.slice e')) ∨ P.underlying tx = some .string) {x x' : Value} (hx : Rv ρ x x') {n : Nat} {news : List Value}
    (hn : newCells h.get size x = some (n, news)) (h1 : news.all oneC = true) :
    ∃ news', Rvs ρ news news' ∧ Src P size tx x' n news' w := by
  cases hx <;> (try simp only [newCells] at hn) <;> try (cases hn; done)
  case sliceNil l c =>
    split at hn
    · rename_i hl; cases hn; subst hl
      exact ⟨[], Rvs.nil, ⟨hk, fun _ => rfl, run_firstCells_none w size 0 0 c, run_firstCells_none w.drew size 0 0 c, by simp, fun _ h => by cases h⟩⟩
    · cases hn
  case slice b b' xx o l c hb =>
    simp only [Option.map_eq_some_iff, Prod.mk.injEq] at hn
    obtain ⟨cs, hc, rfl, rfl⟩ := hn
    obtain ⟨vs', k1, k2, k3⟩ := hS.row hb hc
    have hnews : ∀ j u, vs'[j]? = some u → w.cell? ((⟨b', o, none⟩ : Addr).add j) = some u := fun j u hj => by rw [add_off]; exact k3 j u hj
    exact ⟨vs', k1, ⟨hk, fun _ => rfl, run_firstCells_some w size _ _ _ _ vs' k2 hnews, run_firstCells_some w.drew size _ _ _ _ vs' k2 (by simpa using hnews), k2, k1.oneC h1⟩⟩
  case string s =>
    split at hn
    · rename_i hs
      subst hs
      cases hn
      refine ⟨_, ?_, ⟨hk, fun _ => rfl, firstCells_string s w, firstCells_string s w.drew, by rw [byteCells_length, Nat.mul_one], fun u hu => by
        obtain ⟨_, _, rfl⟩ := List.mem_map.1 hu
        rfl⟩⟩
      refine ⟨rfl, fun i v v' a b => ?_⟩
      unfold byteCells at b
      rw [a] at b; cases b
      rw [List.getElem?_map, Option.map_eq_some_iff] at a
      obtain ⟨u, _, rfl⟩ := a
      exact .int _ _
    · cases hn

theorem only_add {N : Nat} {p : Nat × Nat} {b : Nat} (hb : b ≠ N) : ρ.with N p b = ρ b := by
  unfold Ren.with; rw [if_neg hb]

theorem zeroCells_length (z : Array Value) (n : Nat) : (Builtin.zeroCells z n).toList.length = n * z.size := by
  rw [Array.length_toList]; simp [Builtin.zeroCells]

set_option maxHeartbeats 1000000 in
theorem append_sound (hS : Sim ρ h.get w) {t tx ty e : TypeId} {i : TypeInfo} {z : Value} (ht : P.underlying t = some (.slice e)) (hi : P.info? e = some i) (hz : i.zero = some z)
    (hzs : z.cells.size = i.size) (hby : 0 < i.bytes) (hk : (∃ e', P.underlying tx = some (.slice e')) ∨ P.underlying tx = some .string) {s x s' x' : Value} (hs : Rv ρ s s') (hx : Rv ρ x x')
    {v : Value}
    (hv : doAppend e i.size i.bytes h s x = some (v, h')) (hfr : ∀ b, isNew h h' b → ρ b = none) :
    ∃ v' w' ρ', (Builtin.append_ #[t, tx] ty #[s', x']).run P w = .ok v' w' ∧ Acted ρ h w v h' v' w' ρ' := by
  have grow : ∀ {base : Option Addr} {sLen sCap : Nat} {olds olds' news news' : List Value} {n : Nat} {g1 : VH} {fz : Nat}, Sim ρ g1 w → (∀ b o, g1 b = some o → h.get b = some o) → ρ h.next = none → Src P i.size tx x' n news' w → Rvs ρ news news' →
      Rvs ρ olds olds' → (Builtin.firstCells i.size sLen (.slice base sLen sCap)).run P w.drew = .ok olds'.toArray w.drew → sCap < sLen + n → (2 * (sLen + n) + 768) * i.bytes ≤ 281474976710656 →
      ∃ w' x2, (Builtin.append_ #[t, tx] ty #[.slice base sLen sCap, x']).run P w = .ok (.slice (some ⟨w.heap.size, 0, none⟩) (sLen + n) (sLen + n + x2)) w' ∧
        Sim (ρ.with h.next (w.heap.size, x2)) (g1.with h.next (some (.cells (olds ++ news) e (some i.size) fz))) w' ∧ Ext ρ g1 w (ρ.with h.next (w.heap.size, x2)) (g1.with h.next (some (.cells (olds ++ news) e (some i.size) fz))) w' := by
    intro base sLen sCap olds olds' news news' n g1 fz hS1 hsub hN hsrc hnews hold hfc hgt hb
    have hge := grownCap_ge w (sLen + n) sCap e
    have hfit : Builtin.nextslicecap (sLen + n) sCap * i.bytes ≤ 281474976710656 := growslice_fits hgt (by
      have : (sLen + n) * i.bytes * 2 ≤ (2 * (sLen + n) + 768) * i.bytes := by rw [Nat.mul_right_comm]; exact Nat.mul_le_mul_right _ (by omega)
      omega)
    have h63 : ((sLen + n : Nat) : Int) ≤ 9223372036854775807 := by
      have : (sLen + n) * 1 ≤ (2 * (sLen + n) + 768) * i.bytes := Nat.mul_le_mul (by omega) hby
      omega
    have hrun := run_append_grow_src (P := P) w t tx ty e i z ht hi hz base sLen sCap olds' hfc x' n news' hsrc hgt h63 hfit
    refine ⟨w.drew.alloc (.cells ((olds' ++ news').toArray ++ Builtin.zeroCells z.cells (grownCap w (sLen + n) sCap e - (sLen + n))) e), grownCap w (sLen + n) sCap e - (sLen + n), ?_, ?_⟩
    · rw [show sLen + n + (grownCap w (sLen + n) sCap e - (sLen + n)) = grownCap w (sLen + n) sCap e by omega]
      exact hrun
    · refine hS1.add hN (o' := .cells ((olds' ++ news').toArray ++ Builtin.zeroCells z.cells (grownCap w (sLen + n) sCap e - (sLen + n))) e) rfl rfl rfl ?_
      have e1 : (olds' ++ news').toArray ++ Builtin.zeroCells z.cells (grownCap w (sLen + n) sCap e - (sLen + n)) = ⟨(olds' ++ news') ++ (Builtin.zeroCells z.cells (grownCap w (sLen + n) sCap e - (sLen + n))).toList⟩ := by
        apply Array.ext'; simp
      rw [e1]
      refine .cells ((hold.append hnews).mono (Ren.le_with hN)) ?_ (fun off _ _ h => by omega)
      simp only
      rw [zeroCells_length, hzs]
  cases hn : newCells h.get i.size x with
  | none => cases hs <;> simp [doAppend, hn] at hv
  | some nn =>
    obtain ⟨n, news⟩ := nn
    cases hs <;> simp only [doAppend, hn] at hv <;> try (cases hv; done)
    case sliceNil len cap =>
      split at hv
      case isFalse => cases hv
      rename_i h0
      obtain ⟨rfl, rfl⟩ := h0
      split at hv
      · rename_i hn0
        subst hn0
        simp only [Option.some.injEq, Prod.mk.injEq] at hv
        obtain ⟨rfl, rfl⟩ := hv
        have hnil : news = [] ∨ news.all oneC = true := by
          cases x <;> simp only [newCells] at hn <;> try (cases hn; done)
          case slice a l c =>
            split at hn
            · rename_i he; cases he; split at hn <;> cases hn; exact .inl rfl
            · rename_i he; cases he
              simp only [Option.map_eq_some_iff, Prod.mk.injEq] at hn
              obtain ⟨cs, hc, rfl, rfl⟩ := hn
              left
              unfold cellsIn at hc
              split at hc
              · split at hc
                · cases hc; simp
                · cases hc
              · cases hc
            · rename_i he; cases he
            · cases hn
          case string s =>
            split at hn
            · simp only [Option.some.injEq, Prod.mk.injEq] at hn; obtain ⟨_, rfl⟩ := hn; right; rw [List.all_map]; exact List.all_eq_true.2 (fun _ _ => rfl)
            · cases hn
        have h1 : news.all oneC = true := by rcases hnil with rfl | h; rfl; exact h
        obtain ⟨news', k1, k2⟩ := src_of (P := P) hS hk hx hn h1
        have hnl : news' = [] := by have := k2.newsLen; simp at this; exact this
        subst hnl
        refine ⟨_, w, ρ, run_append_nothing w t tx ty e i ht hi none 0 0 (Nat.le_refl _) x' k2, ⟨.sliceNil 0 0, hS, Ext.refl _ _ _, (by first | exact AH.le_put _ _ _ | exact AH.le_refl _), fun _ _ => rfl⟩⟩
      · rename_i hn0
        split at hv
        case isFalse => cases hv
        rename_i hb
        simp only [Option.some.injEq, Prod.mk.injEq] at hv
        obtain ⟨rfl, rfl⟩ := hv
        obtain ⟨news', k1, k2⟩ := src_of (P := P) hS hk hx hn hb.1
        have hN := hfr h.next (by first | exact isNew_add.2 rfl | exact isNew_padd.2 rfl)
        obtain ⟨w', x2, r1, r2, r3⟩ := grow (base := none) (sLen := 0) (sCap := 0) (olds := []) (olds' := []) (fz := 0) hS (fun _ _ h => h) hN k2 k1 Rvs.nil (run_firstCells_none w.drew _ _ _ _) (by omega) (by simpa using hb.2)
        simp only [Nat.zero_add, List.nil_append] at r1 r2 r3
        refine ⟨_, w', ρ.with h.next (w.heap.size, x2), r1, ⟨.slice Ren.with_same, ?_, ?_, AH.le_add _ _, fun b hb => only_add (fun e => hb (by first | exact isNew_add.2 e | exact isNew_padd.2 e))⟩⟩
        · rw [get_add_eq]; exact r2
        · rw [get_add_eq]; exact r3
    case slice b b' xx o len cap hb =>
      cases hg : h.get b with
      | none => simp [hg] at hv
      | some ob =>
        cases ob with
        | map es cl => simp [hg] at hv
        | cells cs e' sp fz =>
          simp only [hg] at hv
          split at hv
          case isFalse => cases hv
          rename_i h1
          obtain ⟨news', k1, k2⟩ := src_of (P := P) hS hk hx hn h1
          have hnl := k2.newsLen
          obtain ⟨r', x', o', j1, j2, j3⟩ := hS.blk b _ hg
          rw [hb] at j1; cases j1
          cases j3 with
          | @cells _ cs' rest _ _ _ lo hi' j4 j5 j6 =>
            have hlen := j4.1
            split at hv
            · rename_i hroom
              split at hv
              case isFalse => cases hv
              rename_i hc
              simp only [Option.some.injEq, Prod.mk.injEq] at hv
              obtain ⟨rfl, rfl⟩ := hv
              have e2 : (len + n) * i.size = len * i.size + n * i.size := Nat.add_mul _ _ _
              have hrun := run_append_room_src (P := P) w t tx ty e i ht hi b' o len (cap + xx) x' n news' k2 (by omega)
                (fun j hj => by rw [cell_at j2]; simp; omega)
                (fun j hj => by
                  rw [frozen_at j2]
                  simp only [Bool.and_eq_false_iff, decide_eq_false_iff_not]
                  by_cases hlo : lo ≤ o + len * i.size + j
                  · right; intro hhi; have := j6 (o + len * i.size + j) (by omega) hlo hhi; omega
                  · left; exact hlo)
              have he : w.setCells b' (o + len * i.size) news' = setB w b' (.cells ⟨storeL cs' (o + len * i.size) news' ++ rest⟩ e' (lo, hi')) := by
                rw [setCells_eq _ _ _ _ j2, storeL_append _ _ _ _ (by omega)]
              have hR : RObj ρ xx (.cells (storeL cs (o + len * i.size) news) e' sp fz) (.cells ⟨storeL cs' (o + len * i.size) news' ++ rest⟩ e' (lo, hi')) :=
                .cells (storeL_rel j4 _ k1) j5 (by rw [storeL_length]; exact j6)
              obtain ⟨s1, s2⟩ := hS.turn hb hg hR
              refine ⟨_, _, ρ, hrun, ⟨.slice hb, ?_, ?_, (by first | exact AH.le_put _ _ _ | exact AH.le_refl _), fun _ _ => rfl⟩⟩
              · rw [get_put_eq, he]; exact s1
              · rw [get_put_eq, he]; exact s2
            · rename_i hroom
              split at hv
              case isFalse => cases hv
              rename_i hbd
              have hold : Rvs ρ ((cs.drop o).take (len * i.size)) ((cs'.drop o).take (len * i.size)) := (j4.drop o).take _
              have hfc : (Builtin.firstCells i.size len (.slice (some ⟨b', o, none⟩) len (cap + xx))).run P w.drew = .ok ((cs'.drop o).take (len * i.size)).toArray w.drew := by
                refine run_firstCells_some w.drew i.size len _ len _ _ (by simp; omega) (fun j u hj => ?_)
                have hj' : j < len * i.size := by have := (List.getElem?_eq_some_iff.1 hj).1; simp at this; omega
                rw [List.getElem?_take, if_pos hj', List.getElem?_drop] at hj
                rw [add_off, World.cell?_drew, cell_at j2]
                rw [List.getElem?_append_left (List.getElem?_eq_some_iff.1 hj).1]
                exact hj
              cases sp with
              | none =>
                simp only [Option.some.injEq, Prod.mk.injEq] at hv
                obtain ⟨rfl, rfl⟩ := hv
                obtain ⟨rfl, rfl⟩ := j5
                have hN := hfr h.next (by first | exact isNew_add.2 rfl | exact isNew_padd.2 rfl)
                obtain ⟨w', x2, r1, r2, r3⟩ := grow (fz := 0) hS (fun _ _ h => h) hN k2 k1 hold hfc (by omega) hbd.1
                refine ⟨_, w', ρ.with h.next (w.heap.size, x2), r1, ⟨.slice Ren.with_same, ?_, ?_, AH.le_add _ _, fun b hb => only_add (fun e => hb (by first | exact isNew_add.2 e | exact isNew_padd.2 e))⟩⟩
                · rw [get_add_eq]; exact r2
                · rw [get_add_eq]; exact r3
              | some s =>
                simp only at hv
                split at hv
                case isFalse => cases hv
                rename_i hc
                obtain ⟨rfl, rfl, rfl, hcl, hfz, hlc⟩ := hc
                simp only [Option.some.injEq, Prod.mk.injEq] at hv
                obtain ⟨rfl, rfl⟩ := hv
                have hN := hfr h.next (by first | exact isNew_add.2 rfl | exact isNew_padd.2 rfl)
                have hget : ((h.put b none).add (.cells (cs.take (len * i.size) ++ news) e' (some i.size) fz)).get = VH.with (VH.with h.get b none) h.next (some (.cells (cs.take (len * i.size) ++ news) e' (some i.size) fz)) := by
                  rw [get_add_eq, get_put_eq, AH.next_put]
                by_cases hin : len + n ≤ cap + xx
                · -- in place
                  have e2 : (len + n) * i.size = len * i.size + n * i.size := Nat.add_mul _ _ _
                  have e3 : (cap + xx) * i.size = cap * i.size + xx * i.size := Nat.add_mul _ _ _
                  have hle : (len + n) * i.size ≤ (cap + xx) * i.size := Nat.mul_le_mul_right _ hin
                  have hrl : rest.length = xx * i.size := j5
                  have hlc2 : len * i.size ≤ cap * i.size := Nat.mul_le_mul_right _ hlc
                  have hrun := run_append_room_src (P := P) w t tx ty e' i ht hi b' 0 len (cap + xx) x' n news' k2 hin
                    (fun j hj => by rw [cell_at j2]; simp; omega)
                    (fun j hj => by
                      rw [frozen_at j2]
                      simp only [Bool.and_eq_false_iff, decide_eq_false_iff_not]
                      by_cases hlo : lo ≤ 0 + len * i.size + j
                      · right; intro hhi; have := j6 (0 + len * i.size + j) (by omega) hlo hhi; omega
                      · left; exact hlo)
                  have htot : (cs' ++ rest).length = cap * i.size + xx * i.size := by simp; omega
                  have he : w.setCells b' (0 + len * i.size) news' = setB w b' (.cells ⟨(cs'.take (len * i.size) ++ news') ++ (cs' ++ rest).drop (len * i.size + n * i.size)⟩ e' (lo, hi')) := by
                    rw [setCells_eq _ _ _ _ j2, storeL_eq _ _ _ (by omega), Nat.zero_add, hnl, List.take_append_of_le_length (by omega)]
                  have hR : RObj (ρ.with h.next (b', cap + xx - (len + n))) (cap + xx - (len + n)) (.cells (cs.take (len * i.size) ++ news) e' (some i.size) fz)
                      (.cells ⟨(cs'.take (len * i.size) ++ news') ++ (cs' ++ rest).drop (len * i.size + n * i.size)⟩ e' (lo, hi')) := by
                    refine .cells (((j4.take _).append k1).mono (Ren.le_with hN)) ?_ ?_
                    · simp only
                      rw [List.length_drop, htot, Nat.sub_mul]; omega
                    · intro off ho
                      refine j6 off ?_
                      simp only [List.length_append, List.length_take, List.length_drop] at ho
                      omega
                  obtain ⟨s1, s2⟩ := hS.move (x' := cap + xx - (len + n)) hb hg hN hR
                  refine ⟨_, _, ρ.with h.next (b', cap + xx - (len + n)), hrun, ⟨?_, ?_, ?_, AH.le_trans (AH.le_put _ _ _) (AH.le_add _ _), fun b hb => only_add (fun e => hb (by first | exact isNew_add.2 e | exact isNew_padd.2 e))⟩⟩
                  · have := Rv.slice (ρ := ρ.with h.next (b', cap + xx - (len + n))) (b := h.next) (o := 0) (l := len + n) (c := len + n) Ren.with_same
                    rwa [show len + n + (cap + xx - (len + n)) = cap + xx by omega] at this
                  · rw [hget, he]; exact s1
                  · rw [hget, he]; exact s2
                · -- a new row
                  have hw1 : ∀ (b1 : Nat) (o1 : VObj), VH.with h.get b none b1 = some o1 → h.get b1 = some o1 := by
                    intro b1 o1 hh; unfold VH.with at hh; split at hh
                    · cases hh
                    · exact hh
                  have hS1 := hS.weaken hw1
                  simp only [List.drop_zero] at hold hfc
                  obtain ⟨w', x2, r1, r2, r3⟩ := grow (fz := fz) hS1 hw1 hN k2 k1 hold hfc (by omega) hbd.1
                  refine ⟨_, w', ρ.with h.next (w.heap.size, x2), r1, ⟨.slice Ren.with_same, ?_, ?_, AH.le_trans (AH.le_put _ _ _) (AH.le_add _ _), fun b hb => only_add (fun e => hb (by first | exact isNew_add.2 e | exact isNew_padd.2 e))⟩⟩
                  · rw [hget]; exact r2
                  · rw [hget]
                    refine ⟨r3.le, r3.os, r3.output, r3.size, fun r hr hn => r3.frame r hr (fun b2 o2 x2 h2 h3 => hn b2 o2 x2 (hw1 _ _ h2) h3), fun b2 o2 r x h2 h3 h4 => ?_⟩
                    obtain ⟨c, o3, y, h5, h6⟩ := r3.new b2 o2 r x h2 h3 h4
                    exact ⟨c, o3, y, hw1 _ _ h5, h6⟩

end
end Go.Am
