import Derived.Deep.SlicePairs
import Derived.ChangeSlices
import Derived.SizedLaws
import Derived.Test.YthkclagcbjnckaaJ3
set_option linter.unusedVariables false
set_option linter.unusedSimpArgs false

namespace Go.Proofs.Ythkclagcbjnckaa.Pa
open Go.RowKit Go.Proofs.YthkclagcbjnckaaW.PrintWords Go.Proofs.YthkclagcbjnckaaW.PrintLast Go.Proofs.YthkclagcbjnckaaW.PrintMore
attribute [local go_sem] max2_int min2_int max_two min_two max_three min_three max_four min_four
set_option linter.unusedVariables false
set_option linter.unusedSimpArgs false
mutual
def tenetref24_Eq.j0 : Nat → Bool → Int → Int → List (S27) → Int → Int → List (S27) → Option (Bool)
 | 0, _, _, _, _, _, _, _ => none
 | k + 1, x26, x280000, x280001, x280002, x281000, x281001, x281002 => if x26 = true then (some false) else (tenetref24_Eq.l0 k 0 x280000 x280001 x280002 x281000 x281001 x281002)
def tenetref24_Eq.l0 : Nat → Int → Int → Int → List (S27) → Int → Int → List (S27) → Option (Bool)
 | 0, _, _, _, _, _, _, _ => none
 | k + 1, x5, x280000, x280001, x280002, x281000, x281001, x281002 => if x5 < (x280002.length : Int) then (if 0 ≤ x5 then (if x5 < (x281002.length : Int) then ((tenetref24_Eq.f k ((rd_T27 x280002 x5).f0) ((rd_T27 x280002 x5).f1) ((rd_T27 x280002 x5).f2) ((rd_T27 x281002 x5).f0) ((rd_T27 x281002 x5).f1) ((rd_T27 x281002 x5).f2)).bind fun t283 => (if t283 = true then (tenetref24_Eq.l0 k (wrap64 (x5 + 1)) x280000 x280001 x280002 x281000 x281001 x281002) else (some false))) else (none)) else (none)) else (some true)
def tenetref24_Eq.f : Nat → Int → Int → List (S27) → Int → Int → List (S27) → Option (Bool)
 | 0, _, _, _, _, _, _ => none
 | k + 1, a0_0, a0_1, l0_2, a1_0, a1_1, l1_2 => if a0_0 = a1_0 then (if a0_1 = a1_1 then (tenetref24_Eq.j0 k ((l0_2.length : Int) != (l1_2.length : Int)) a0_0 a0_1 l0_2 a1_0 a1_1 l1_2) else (tenetref24_Eq.j0 k true a0_0 a0_1 l0_2 a1_0 a1_1 l1_2)) else (tenetref24_Eq.j0 k true a0_0 a0_1 l0_2 a1_0 a1_1 l1_2)
end
def tenetref24_Eq.T6 : Bool × List (List Nat × List Nat) := (true, [([], []), ([0], [0]), ([], []), ([1, 2], [1, 2]), ([3], [3]), ([], []), ([5], [5]), ([], []), ([6, 7], [6, 7]), ([8], [8]), ([4, 9], [4, 9]), ([10], [10])])
def tenetref24_Eq.B6 : List Nat := [0, 1, 0, 7, 15, 0, 32, 0, 224, 480, 1023, 2047]
theorem tenetref24_Eq.tab6 : rtab .any (opsOf Try.f16 6) = tenetref24_Eq.T6 := by kernel_rfl
theorem tenetref24_Eq.bits6 : waitsOk tenetref24_Eq.T6.2 tenetref24_Eq.B6 = true := by kernel_rfl
set_option maxHeartbeats 8000000 in
set_option maxRecDepth 100000 in
theorem tenetref24_Eq.calls (k : Nat) : ∀ (a0_0 : Int) (a0_1 : Int) (A0_2 : Option Addr) (c0_2 : Nat) (l0_2 : List (S27)) (a1_0 : Int) (a1_1 : Int) (A1_2 : Option Addr) (c1_2 : Nat) (l1_2 : List (S27)) (r : Bool) (w : World) (hr0_2 : Kd.C k27 w A0_2 l0_2.length l0_2) (hc0_2 : l0_2.length ≤ c0_2) (hr1_2 : Kd.C k27 w A1_2 l1_2.length l1_2) (hc1_2 : l1_2.length ≤ c1_2) (h : tenetref24_Eq.f k a0_0 a0_1 l0_2 a1_0 a1_1 l1_2 = some r),
  Calls Try.prog 16 #[.agg #[.int .i64 a0_0, .int .i64 a0_1, .slice A0_2 l0_2.length c0_2], .agg #[.int .i64 a1_0, .int .i64 a1_1, .slice A1_2 l1_2.length c1_2]] w fun e w' => e = .returned (.bool r) ∧ Below w.heap.size w w' := by
 induction k using Nat.strongRecOn with
 | _ k ih =>
 intro a0_0 a0_1 A0_2 c0_2 l0_2 a1_0 a1_1 A1_2 c1_2 l1_2 r w hr0_2 hc0_2 hr1_2 hc1_2 h
 cases k with
 | zero => exact absurd h (by simp [tenetref24_Eq.f])
 | succ k =>
 simp only [tenetref24_Eq.f] at h
 have hu27 := Try.underlying27
 have HR0_2 := Aside0.mk hr0_2
 have HC0_2 := Aside0.mk hc0_2
 clear hr0_2 hc0_2
 have HR1_2 := Aside0.mk hr1_2
 have HC1_2 := Aside0.mk hc1_2
 clear hr1_2 hc1_2
 have HB := Aside0.mk (Below.refl w.heap.size w)
 have H : (if a0_0 = a1_0 then (if a0_1 = a1_1 then (tenetref24_Eq.j0 k ((l0_2.length : Int) != (l1_2.length : Int)) a0_0 a0_1 l0_2 a1_0 a1_1 l1_2) else (tenetref24_Eq.j0 k true a0_0 a0_1 l0_2 a1_0 a1_1 l1_2)) else (tenetref24_Eq.j0 k true a0_0 a0_1 l0_2 a1_0 a1_1 l1_2)) = some r := h
 clear h
 have HC3 := Aside0.mk H
 clear H
 go_enter Try.func16, Try.ntmps16
 go_upto_region 1 with (first | ((with_reducible refine gate_dst (N := 2) rfl ?_); (try (refine gate_guard (by rfl) ?_; dsimp only)); refine box_event ?hg (N := 2) ?hd (cs := #[.int .i64 a0_0, .int .i64 a0_1, .slice A0_2 l0_2.length c0_2]) (t := 27) ?hr ?_; (case hd => rfl); (case hg => rfl); (case hr => first | (go_simp; done) | (go_simp; rfl)); intro gb279 hg w4 hbox hb; have n0_ := Aside0.mk (below_step (by repeat (first | (with_reducible first | exact HB.out | apply below_alloc | apply pw_below_drewN | apply below_drew1) | exact HB.out)) hb); have n1_ := Aside0.mk (hbox); have n2_ := Aside0.mk ((by rw [hg]; exact (below_size (by repeat (first | (with_reducible first | exact HB.out | apply below_alloc | apply pw_below_drewN | apply below_drew1) | exact HB.out))) : w.heap.size ≤ gb279)); have n3_ := Aside0.mk ((by rw [hg]; exact (below_size (by repeat (first | (with_reducible first | exact HB.out | apply below_alloc | apply pw_below_drewN | apply below_drew1) | exact HB.out))) : w.heap.size ≤ gb279)); clear HB; have HB := n0_; have BK279 := n1_; have GW279 := n2_; have GE279 := n3_; clear n0_ n1_ n2_ n3_; clear hb hbox hg) | ((with_reducible refine gate_dst (N := 3) rfl ?_); (try (refine gate_guard (by rfl) ?_; dsimp only)); refine box_event ?hg (N := 3) ?hd (cs := #[.int .i64 a1_0, .int .i64 a1_1, .slice A1_2 l1_2.length c1_2]) (t := 27) ?hr ?_; (case hd => rfl); (case hg => rfl); (case hr => first | (go_simp; done) | (go_simp; rfl)); intro gb280 hg w5 hbox hb; have n0_ := Aside0.mk (blk_below (g := gb279) (o := .cells #[.int .i64 a0_0, .int .i64 a0_1, .slice A0_2 l0_2.length c0_2] 27 (0, 0)) (by (with_reducible repeat (first | refine blk_drewN ?_ _ | refine blk_drew ?_ | refine blk_alloc ?_ _)); exact BK279.out) hb); have n1_ := Aside0.mk (below_step (by repeat (first | (with_reducible first | exact HB.out | apply below_alloc | apply pw_below_drewN | apply below_drew1 | refine below_set ?_ GE279.out) | exact HB.out)) hb); have n2_ := Aside0.mk (hbox); have n3_ := Aside0.mk ((by rw [hg]; exact (below_size (by repeat (first | (with_reducible first | exact HB.out | apply below_alloc | apply pw_below_drewN | apply below_drew1 | refine below_set ?_ GE279.out) | exact HB.out))) : w.heap.size ≤ gb280)); have n4_ := Aside0.mk ((by rw [hg]; exact (below_size (by repeat (first | (with_reducible first | exact HB.out | apply below_alloc | apply pw_below_drewN | apply below_drew1 | refine below_set ?_ GE279.out) | exact HB.out))) : w.heap.size ≤ gb280)); have n5_ := Aside0.mk ((by rw [hg]; exact Nat.ne_of_lt (blk_lt (g := gb279) (o := .cells #[.int .i64 a0_0, .int .i64 a0_1, .slice A0_2 l0_2.length c0_2] 27 (0, 0)) (by (with_reducible repeat (first | refine blk_drewN ?_ _ | refine blk_drew ?_ | refine blk_alloc ?_ _)); exact BK279.out)) : gb279 ≠ gb280)); have n6_ := Aside0.mk ((by rw [hg]; exact Nat.ne_of_gt (blk_lt (g := gb279) (o := .cells #[.int .i64 a0_0, .int .i64 a0_1, .slice A0_2 l0_2.length c0_2] 27 (0, 0)) (by (with_reducible repeat (first | refine blk_drewN ?_ _ | refine blk_drew ?_ | refine blk_alloc ?_ _)); exact BK279.out)) : gb280 ≠ gb279)); clear BK279; clear HB; have BK279 := n0_; have HB := n1_; have BK280 := n2_; have GW280 := n3_; have GE280 := n4_; have NB279_280 := n5_; have NB280_279 := n6_; clear n0_ n1_ n2_ n3_ n4_ n5_ n6_; clear hb hbox hg))
 (try simp only [Act.put, List.setIfInBounds_toArray, List.set_cons_zero, List.set_cons_succ])
 go_cut [26] (fun v26 wc => ∃ (kq : Nat) (x26_2 : Bool), v26 = .bool x26_2 ∧ Aside0 (tenetref24_Eq.j0 kq x26_2 a0_0 a0_1 l0_2 a1_0 a1_1 l1_2 = some r) ∧ Aside0 (kq ≤ k) ∧ Aside0 (wc.heap[gb279]? = some (.cells #[.int .i64 a0_0, .int .i64 a0_1, (.slice A0_2 l0_2.length c0_2)] 27 (0, 0))) ∧ Aside0 (wc.heap[gb280]? = some (.cells #[.int .i64 a1_0, .int .i64 a1_1, (.slice A1_2 l1_2.length c1_2)] 27 (0, 0))) ∧ Aside0 (Below w.heap.size w wc))
 case first =>
  have H := HC3.out
  clear HC3
  by_cases c6 : a0_0 = a1_0
  ·rw [if_pos c6] at H
   have c6b0 : (a0_0 == a1_0) = true := beq_iff_eq.mpr c6
   have c6b1 : (a0_0 != a1_0) = false := bne_eq_false_iff_eq.mpr c6
   clear c6
   (first | rw [c6b0] | (simp only [i64_w, i32_w]; rw [c6b0]) | skip)
   by_cases c7 : a0_1 = a1_1
   ·rw [if_pos c7] at H
    have c7b0 : (a0_1 == a1_1) = true := beq_iff_eq.mpr c7
    have c7b1 : (a0_1 != a1_1) = false := bne_eq_false_iff_eq.mpr c7
    clear c7
    have H' := Aside0.mk H
    clear H
    have hnb8 := NB279_280.out
    have hnc8 := NB280_279.out
    have hcz9_0 : w5.cell? ⟨gb279, 0, none⟩ = some (.int .i64 a0_0) := (blk_cell BK279.out 0).trans rfl
    have hcz9_1 : w5.cell? ⟨gb279, 1, none⟩ = some (.int .i64 a0_1) := (blk_cell BK279.out 1).trans rfl
    have hcz9_2 : w5.cell? ⟨gb279, 2, none⟩ = some (.slice A0_2 l0_2.length c0_2) := (blk_cell BK279.out 2).trans rfl
    have hfz9_0 := blk_frozen BK279.out 0
    have hfz9_1 := blk_frozen BK279.out 1
    have hfz9_2 := blk_frozen BK279.out 2
    have hcz10_0 : w5.cell? ⟨gb280, 0, none⟩ = some (.int .i64 a1_0) := (blk_cell BK280.out 0).trans rfl
    have hcz10_1 : w5.cell? ⟨gb280, 1, none⟩ = some (.int .i64 a1_1) := (blk_cell BK280.out 1).trans rfl
    have hcz10_2 : w5.cell? ⟨gb280, 2, none⟩ = some (.slice A1_2 l1_2.length c1_2) := (blk_cell BK280.out 2).trans rfl
    have hfz10_0 := blk_frozen BK280.out 0
    have hfz10_1 := blk_frozen BK280.out 1
    have hfz10_2 := blk_frozen BK280.out 2
    go_wp2
    go_meet
    case rel => exact ⟨_, (((l0_2.length : Int) != (l1_2.length : Int))), (by first | rfl | (simp; done) | (simp [*]; done)), H', ⟨by first | omega | exact Nat.le_refl _⟩, ⟨by (with_reducible repeat (first | refine blk_drewN ?_ _ | refine blk_drew ?_ | refine blk_alloc ?_ _)); exact BK279.out⟩, ⟨by (with_reducible repeat (first | refine blk_drewN ?_ _ | refine blk_drew ?_ | refine blk_alloc ?_ _)); exact BK280.out⟩, ⟨by repeat (first | (with_reducible first | exact HB.out | apply below_alloc | apply pw_below_drewN | apply below_drew1 | refine below_set ?_ GE279.out | refine below_set ?_ GE280.out) | exact HB.out)⟩⟩
   ·rw [if_neg c7] at H
    have c7b0 : (a0_1 == a1_1) = false := beq_eq_false_iff_ne.mpr c7
    have c7b1 : (a0_1 != a1_1) = true := bne_iff_ne.mpr c7
    have H' := Aside0.mk H
    clear H
    have hnb11 := NB279_280.out
    have hnc11 := NB280_279.out
    have hcz12_0 : w5.cell? ⟨gb279, 0, none⟩ = some (.int .i64 a0_0) := (blk_cell BK279.out 0).trans rfl
    have hcz12_1 : w5.cell? ⟨gb279, 1, none⟩ = some (.int .i64 a0_1) := (blk_cell BK279.out 1).trans rfl
    have hcz12_2 : w5.cell? ⟨gb279, 2, none⟩ = some (.slice A0_2 l0_2.length c0_2) := (blk_cell BK279.out 2).trans rfl
    have hfz12_0 := blk_frozen BK279.out 0
    have hfz12_1 := blk_frozen BK279.out 1
    have hfz12_2 := blk_frozen BK279.out 2
    have hcz13_0 : w5.cell? ⟨gb280, 0, none⟩ = some (.int .i64 a1_0) := (blk_cell BK280.out 0).trans rfl
    have hcz13_1 : w5.cell? ⟨gb280, 1, none⟩ = some (.int .i64 a1_1) := (blk_cell BK280.out 1).trans rfl
    have hcz13_2 : w5.cell? ⟨gb280, 2, none⟩ = some (.slice A1_2 l1_2.length c1_2) := (blk_cell BK280.out 2).trans rfl
    have hfz13_0 := blk_frozen BK280.out 0
    have hfz13_1 := blk_frozen BK280.out 1
    have hfz13_2 := blk_frozen BK280.out 2
    go_wp2
    go_meet
    case rel => exact ⟨_, (true), (by first | rfl | (simp; done) | (simp [*]; done)), H', ⟨by first | omega | exact Nat.le_refl _⟩, ⟨by (with_reducible repeat (first | refine blk_drewN ?_ _ | refine blk_drew ?_ | refine blk_alloc ?_ _)); exact BK279.out⟩, ⟨by (with_reducible repeat (first | refine blk_drewN ?_ _ | refine blk_drew ?_ | refine blk_alloc ?_ _)); exact BK280.out⟩, ⟨by repeat (first | (with_reducible first | exact HB.out | apply below_alloc | apply pw_below_drewN | apply below_drew1 | refine below_set ?_ GE279.out | refine below_set ?_ GE280.out) | exact HB.out)⟩⟩
  ·rw [if_neg c6] at H
   have c6b0 : (a0_0 == a1_0) = false := beq_eq_false_iff_ne.mpr c6
   have c6b1 : (a0_0 != a1_0) = true := bne_iff_ne.mpr c6
   (first | rw [c6b0] | (simp only [i64_w, i32_w]; rw [c6b0]) | skip)
   have H' := Aside0.mk H
   clear H
   have hnb14 := NB279_280.out
   have hnc14 := NB280_279.out
   have hcz15_0 : w5.cell? ⟨gb279, 0, none⟩ = some (.int .i64 a0_0) := (blk_cell BK279.out 0).trans rfl
   have hcz15_1 : w5.cell? ⟨gb279, 1, none⟩ = some (.int .i64 a0_1) := (blk_cell BK279.out 1).trans rfl
   have hcz15_2 : w5.cell? ⟨gb279, 2, none⟩ = some (.slice A0_2 l0_2.length c0_2) := (blk_cell BK279.out 2).trans rfl
   have hfz15_0 := blk_frozen BK279.out 0
   have hfz15_1 := blk_frozen BK279.out 1
   have hfz15_2 := blk_frozen BK279.out 2
   have hcz16_0 : w5.cell? ⟨gb280, 0, none⟩ = some (.int .i64 a1_0) := (blk_cell BK280.out 0).trans rfl
   have hcz16_1 : w5.cell? ⟨gb280, 1, none⟩ = some (.int .i64 a1_1) := (blk_cell BK280.out 1).trans rfl
   have hcz16_2 : w5.cell? ⟨gb280, 2, none⟩ = some (.slice A1_2 l1_2.length c1_2) := (blk_cell BK280.out 2).trans rfl
   have hfz16_0 := blk_frozen BK280.out 0
   have hfz16_1 := blk_frozen BK280.out 1
   have hfz16_2 := blk_frozen BK280.out 2
   go_wp2
   go_meet
   case rel => exact ⟨_, (true), (by first | rfl | (simp; done) | (simp [*]; done)), H', ⟨by first | omega | exact Nat.le_refl _⟩, ⟨by (with_reducible repeat (first | refine blk_drewN ?_ _ | refine blk_drew ?_ | refine blk_alloc ?_ _)); exact BK279.out⟩, ⟨by (with_reducible repeat (first | refine blk_drewN ?_ _ | refine blk_drew ?_ | refine blk_alloc ?_ _)); exact BK280.out⟩, ⟨by repeat (first | (with_reducible first | exact HB.out | apply below_alloc | apply pw_below_drewN | apply below_drew1 | refine below_set ?_ GE279.out | refine below_set ?_ GE280.out) | exact HB.out)⟩⟩
 case rest =>
  clear HC3
  try clear c1
  try clear p2
  try clear c6
  try clear c6b0
  try clear c6b1
  try clear c7
  try clear c7b0
  try clear c7b1
  try clear c8
  try clear c11
  try clear c14
  try clear c16
  try clear hcz10_0
  try clear hcz10_1
  try clear hcz10_2
  try clear hcz12_0
  try clear hcz12_1
  try clear hcz12_2
  try clear hcz13_0
  try clear hcz13_1
  try clear hcz13_2
  try clear hcz15_0
  try clear hcz15_1
  try clear hcz15_2
  try clear hcz16_0
  try clear hcz16_1
  try clear hcz16_2
  try clear hcz9_0
  try clear hcz9_1
  try clear hcz9_2
  try clear hfz10_0
  try clear hfz10_1
  try clear hfz10_2
  try clear hfz12_0
  try clear hfz12_1
  try clear hfz12_2
  try clear hfz13_0
  try clear hfz13_1
  try clear hfz13_2
  try clear hfz15_0
  try clear hfz15_1
  try clear hfz15_2
  try clear hfz16_0
  try clear hfz16_1
  try clear hfz16_2
  try clear hfz9_0
  try clear hfz9_1
  try clear hfz9_2
  obtain ⟨kq, x26_2, rfl, HA, HJ2, BK279, BK280, HB⟩ := hcut
  cases kq with
  | zero => exact absurd HA.out (by simp [tenetref24_Eq.j0])
  | succ kj2 =>
   have H := HA.out
   clear HA
   simp only [tenetref24_Eq.j0] at H
   by_cases c17 : x26_2 = true
   ·subst c17
    have H1 : (some false) = some r := by rw [if_pos rfl] at H; exact H
    clear H
    have H := H1
    clear H1
    obtain rfl := Option.some.inj H
    go_wp2
    go_ret
    exact ⟨by first | rfl | (simp [errW_none, errW_some] <;> rfl) | (simp [*, errW_none, errW_some] <;> rfl), by repeat (first | (with_reducible first | exact HB.out | apply below_alloc | apply pw_below_drewN | apply below_drew1 | refine below_set ?_ GE279.out | refine below_set ?_ GE280.out) | exact HB.out)⟩
   ·replace c17 := Bool.eq_false_iff.mpr c17
    subst c17
    have H1 : (tenetref24_Eq.l0 kj2 0 a0_0 a0_1 l0_2 a1_0 a1_1 l1_2) = some r := by rw [if_neg (show ¬ (false = true) by decide)] at H; exact H
    clear H
    have H := H1
    clear H1
    have H' := Aside0.mk H
    clear H
    go_wp2
    go_loopg [5] kj2 (fun kq v5 w' => ∃ (x5_2 : Int), v5 = .int .i64 x5_2 ∧ Aside0 (tenetref24_Eq.l0 kq x5_2 a0_0 a0_1 l0_2 a1_0 a1_1 l1_2 = some r) ∧ Aside0 (kq ≤ kj2) ∧ Aside0 (w'.heap[gb279]? = some (.cells #[.int .i64 a0_0, .int .i64 a0_1, (.slice A0_2 l0_2.length c0_2)] 27 (0, 0))) ∧ Aside0 (w'.heap[gb280]? = some (.cells #[.int .i64 a1_0, .int .i64 a1_1, (.slice A1_2 l1_2.length c1_2)] 27 (0, 0))) ∧ Aside0 (Below w.heap.size w w'))
    case atStart => exact ⟨(0), (by first | rfl | (simp; done) | (simp [*]; done)), H', ⟨Nat.le_refl _⟩, ⟨by (with_reducible repeat (first | refine blk_drewN ?_ _ | refine blk_drew ?_ | refine blk_alloc ?_ _)); exact BK279.out⟩, ⟨by (with_reducible repeat (first | refine blk_drewN ?_ _ | refine blk_drew ?_ | refine blk_alloc ?_ _)); exact BK280.out⟩, ⟨by repeat (first | (with_reducible first | exact HB.out | apply below_alloc | apply pw_below_drewN | apply below_drew1 | refine below_set ?_ GE279.out | refine below_set ?_ GE280.out) | exact HB.out)⟩⟩
    case round =>
     clear H'
     try clear c1
     try clear p2
     try clear c6
     try clear c6b0
     try clear c6b1
     try clear c7
     try clear c7b0
     try clear c7b1
     try clear c8
     try clear c11
     try clear c14
     try clear c16
     try clear c17
     try clear hcz10_0
     try clear hcz10_1
     try clear hcz10_2
     try clear hcz12_0
     try clear hcz12_1
     try clear hcz12_2
     try clear hcz13_0
     try clear hcz13_1
     try clear hcz13_2
     try clear hcz15_0
     try clear hcz15_1
     try clear hcz15_2
     try clear hcz16_0
     try clear hcz16_1
     try clear hcz16_2
     try clear hcz9_0
     try clear hcz9_1
     try clear hcz9_2
     try clear hfz10_0
     try clear hfz10_1
     try clear hfz10_2
     try clear hfz12_0
     try clear hfz12_1
     try clear hfz12_2
     try clear hfz13_0
     try clear hfz13_1
     try clear hfz13_2
     try clear hfz15_0
     try clear hfz15_1
     try clear hfz15_2
     try clear hfz16_0
     try clear hfz16_1
     try clear hfz16_2
     try clear hfz9_0
     try clear hfz9_1
     try clear hfz9_2
     try clear p2
     obtain ⟨x5_2, rfl, HA, HK2, BK279, BK280, HB⟩ := hrel
     cases gk with
     | zero => exact absurd HA.out (by simp [tenetref24_Eq.l0])
     | succ k2 =>
      have H := HA.out
      clear HA
      simp only [tenetref24_Eq.l0] at H
      by_cases c18 : x5_2 < (l0_2.length : Int)
      ·rw [if_pos c18] at H
       have c18b0 : decide (x5_2 < (l0_2.length : Int)) = true := decide_eq_true c18
       clear c18
       by_cases c19 : 0 ≤ x5_2
       ·rw [if_pos c19] at H
        have c19b0 : decide (0 ≤ x5_2) = true := decide_eq_true c19
        clear c19
        by_cases c20 : x5_2 < (l1_2.length : Int)
        ·rw [if_pos c20] at H
         have c20b0 : decide (x5_2 < (l1_2.length : Int)) = true := decide_eq_true c20
         clear c20
         replace H := Option.bind_eq_some_iff.mp H
         obtain ⟨t283, A210, H⟩ := H
         replace H : (if t283 = true then (tenetref24_Eq.l0 k2 (wrap64 (x5_2 + 1)) a0_0 a0_1 l0_2 a1_0 a1_1 l1_2) else (some false)) = some r := H
         have A21 := Aside0.mk A210
         clear A210
         by_cases c22 : t283 = true
         ·subst c22
          have H1 : (tenetref24_Eq.l0 k2 (wrap64 (x5_2 + 1)) a0_0 a0_1 l0_2 a1_0 a1_1 l1_2) = some r := by rw [if_pos rfl] at H; exact H
          clear H
          have H := H1
          clear H1
          have H' := Aside0.mk H
          clear H
          have hnb23 := NB279_280.out
          have hnc23 := NB280_279.out
          have hcz24_0 : wr.cell? ⟨gb279, 0, none⟩ = some (.int .i64 a0_0) := (blk_cell BK279.out 0).trans rfl
          have hcz24_1 : wr.cell? ⟨gb279, 1, none⟩ = some (.int .i64 a0_1) := (blk_cell BK279.out 1).trans rfl
          have hcz24_2 : wr.cell? ⟨gb279, 2, none⟩ = some (.slice A0_2 l0_2.length c0_2) := (blk_cell BK279.out 2).trans rfl
          have hfz24_0 := blk_frozen BK279.out 0
          have hfz24_1 := blk_frozen BK279.out 1
          have hfz24_2 := blk_frozen BK279.out 2
          try go_wp2
          have n0_ := Aside0.mk (blk_drew BK279.out)
          have n1_ := Aside0.mk (blk_drew BK280.out)
          have n2_ := Aside0.mk (below_drew1 HB.out)
          clear BK279
          clear BK280
          clear HB
          have BK279 := n0_
          have BK280 := n1_
          have HB := n2_
          clear n0_ n1_ n2_
          have p281 : 0 ≤ (x5_2 : Int) := of_decide_eq_true (by first | (with_reducible assumption) | assumption)
          have q281 : x5_2 < (l0_2.length : Int) := of_decide_eq_true (by first | (with_reducible assumption) | assumption)
          obtain ⟨ad281, A281_2, c281_2, e281, hx281_0, hx281_1, hx281_2, hl281_2, hi281_2⟩ := at_T27 HR0_2.out x5_2 p281 q281
          have hw281_2 := hx281_2
          have hw281_1 := hx281_1
          have hw281_0 := hx281_0
          cases e281
          replace hx281_0 := (HB.out.cell (World.block_lt_of_cell? w _ hx281_0)).trans hx281_0
          replace hx281_1 := (HB.out.cell (World.block_lt_of_cell? w _ hx281_1)).trans hx281_1
          replace hx281_2 := (HB.out.cell (World.block_lt_of_cell? w _ hx281_2)).trans hx281_2
          have HR281_2 := Aside0.mk hi281_2
          have HC281_2 := Aside0.mk hl281_2
          clear hi281_2 hl281_2
          replace p281 := eq_true p281
          replace q281 := eq_true q281
          have p282 : 0 ≤ (x5_2 : Int) := of_decide_eq_true (by first | (with_reducible assumption) | assumption)
          have q282 : x5_2 < (l1_2.length : Int) := of_decide_eq_true (by first | (with_reducible assumption) | assumption)
          obtain ⟨ad282, A282_2, c282_2, e282, hx282_0, hx282_1, hx282_2, hl282_2, hi282_2⟩ := at_T27 HR1_2.out x5_2 p282 q282
          have hw282_2 := hx282_2
          have hw282_1 := hx282_1
          have hw282_0 := hx282_0
          cases e282
          replace hx282_0 := (HB.out.cell (World.block_lt_of_cell? w _ hx282_0)).trans hx282_0
          replace hx282_1 := (HB.out.cell (World.block_lt_of_cell? w _ hx282_1)).trans hx282_1
          replace hx282_2 := (HB.out.cell (World.block_lt_of_cell? w _ hx282_2)).trans hx282_2
          have HR282_2 := Aside0.mk hi282_2
          have HC282_2 := Aside0.mk hl282_2
          clear hi282_2 hl282_2
          replace p282 := eq_true p282
          replace q282 := eq_true q282
          refine start_ (n := 12) (S := fun w' => w'.cell? ⟨gb279, 0, none⟩ = some (.int .i64 a0_0) ∧ w'.cell? ⟨gb279, 1, none⟩ = some (.int .i64 a0_1) ∧ w'.cell? ⟨gb279, 2, none⟩ = some (.slice (some ad281) l0_2.length c0_2) ∧ w'.cell? ⟨gb280, 0, none⟩ = some (.int .i64 a1_0) ∧ w'.cell? ⟨gb280, 1, none⟩ = some (.int .i64 a1_1) ∧ w'.cell? ⟨gb280, 2, none⟩ = some (.slice (some ad282) l1_2.length c1_2) ∧ w'.cell? (ad281.add ((x5_2).toNat * 3)) = some (.int .i64 ((rd_T27 l0_2 x5_2).f0)) ∧ w'.cell? ⟨(ad281.add ((x5_2).toNat * 3)).block, (ad281.add ((x5_2).toNat * 3)).off + 1, none⟩ = some (.int .i64 ((rd_T27 l0_2 x5_2).f1)) ∧ w'.cell? ⟨(ad281.add ((x5_2).toNat * 3)).block, (ad281.add ((x5_2).toNat * 3)).off + 2, none⟩ = some (.slice A281_2 ((rd_T27 l0_2 x5_2).f2).length c281_2) ∧ w'.cell? (ad282.add ((x5_2).toNat * 3)) = some (.int .i64 ((rd_T27 l1_2 x5_2).f0)) ∧ w'.cell? ⟨(ad282.add ((x5_2).toNat * 3)).block, (ad282.add ((x5_2).toNat * 3)).off + 1, none⟩ = some (.int .i64 ((rd_T27 l1_2 x5_2).f1)) ∧ w'.cell? ⟨(ad282.add ((x5_2).toNat * 3)).block, (ad282.add ((x5_2).toNat * 3)).off + 2, none⟩ = some (.slice A282_2 ((rd_T27 l1_2 x5_2).f2).length c282_2)) (ds := []) #[false, false, false, false, false, false, false, false, false, false, false, false] (by kernel_rfl) rfl rfl ⟨(blk_cell BK279.out 0).trans rfl, (blk_cell BK279.out 1).trans rfl, (blk_cell BK279.out 2).trans rfl, (blk_cell BK280.out 0).trans rfl, (blk_cell BK280.out 1).trans rfl, (blk_cell BK280.out 2).trans rfl, ((HB.out.cell (World.block_lt_of_cell? w _ hw281_0)).trans hw281_0), ((HB.out.cell (World.block_lt_of_cell? w _ hw281_1)).trans hw281_1), ((HB.out.cell (World.block_lt_of_cell? w _ hw281_2)).trans hw281_2), ((HB.out.cell (World.block_lt_of_cell? w _ hw282_0)).trans hw282_0), ((HB.out.cell (World.block_lt_of_cell? w _ hw282_1)).trans hw282_1), ((HB.out.cell (World.block_lt_of_cell? w _ hw282_2)).trans hw282_2)⟩ (fun hHeld => ?_); refine with_tabW tenetref24_Eq.tab6 tenetref24_Eq.bits6 (fun HT_ HW_ => ?_)
          generalize wr.drew = w25 at BK279 BK280 HB HR281_2 HR282_2 hx281_0 hx281_1 hx281_2 hx282_0 hx282_1 hx282_2 hHeld ⊢
          refine pure_ (i := 0) (N := some 34) (v := ?_) (a' := ?_) #[true, false, false, false, false, false, false, false, false, false, false, false] rfl rfl (any_of HT_.out (by kernel_rfl)) (fun _ _ _ h => h) (Or.inl ⟨by rfl, ?_⟩) ?_ ?_
          rotate_left
          ·intro w'
           go_simp
           with_reducible rfl
          rotate_left
          ·simp only [Act.put, List.setIfInBounds_toArray, List.set_cons_zero, List.set_cons_succ, i64_w, i32_w]
           rfl
          refine pure_ (i := 2) (N := some 36) (v := ?_) (a' := ?_) #[true, false, true, false, false, false, false, false, false, false, false, false] rfl rfl (any_of HT_.out (by kernel_rfl)) (fun _ _ _ h => h) (Or.inl ⟨by rfl, ?_⟩) ?_ ?_
          rotate_left
          ·intro w'
           go_simp
           with_reducible rfl
          rotate_left
          ·simp only [Act.put, List.setIfInBounds_toArray, List.set_cons_zero, List.set_cons_succ, i64_w, i32_w]
           rfl
          refine pure_ (i := 5) (N := some 39) (v := ?_) (a' := ?_) #[true, false, true, false, false, true, false, false, false, false, false, false] rfl rfl (any_of HT_.out (by kernel_rfl)) (fun _ _ _ h => h) (Or.inl ⟨by rfl, ?_⟩) ?_ ?_
          rotate_left
          ·intro w'
           go_simp
           with_reducible rfl
          rotate_left
          ·simp only [Act.put, List.setIfInBounds_toArray, List.set_cons_zero, List.set_cons_succ, i64_w, i32_w]
           rfl
          refine pure_ (i := 7) (N := some 41) (v := ?_) (a' := ?_) #[true, false, true, false, false, true, false, true, false, false, false, false] rfl rfl (any_of HT_.out (by kernel_rfl)) (fun _ _ _ h => h) (Or.inl ⟨by rfl, ?_⟩) ?_ ?_
          rotate_left
          ·intro w'
           go_simp
           with_reducible rfl
          rotate_left
          ·simp only [Act.put, List.setIfInBounds_toArray, List.set_cons_zero, List.set_cons_succ, i64_w, i32_w]
           rfl
          refine take_ (i := 1) (N := some 35) (v := ?_) (a' := ?_) #[true, true, true, false, false, true, false, true, false, false, false, false] rfl rfl (take_ofW HT_.out HW_.out (by kernel_rfl)) (fun _ _ _ h => h) (Or.inl ⟨by rfl, ?_⟩) hHeld ?_ ?_
          rotate_left
          ·rintro w' ⟨s0, s1, s2, s3, s4, s5, s6, s7, s8, s9, s10, s11⟩
           go_simp
           with_reducible rfl
          rotate_left
          ·simp only [Act.put, List.setIfInBounds_toArray, List.set_cons_zero, List.set_cons_succ, i64_w, i32_w]
           rfl
          refine pure_ (i := 3) (N := some 37) (v := ?_) (a' := ?_) #[true, true, true, true, false, true, false, true, false, false, false, false] rfl rfl (any_of HT_.out (by kernel_rfl)) (fun _ _ _ h => h) (Or.inl ⟨by rfl, ?_⟩) ?_ ?_
          rotate_left
          ·intro w'
           go_simp
           with_reducible rfl
          rotate_left
          ·simp only [Act.put, List.setIfInBounds_toArray, List.set_cons_zero, List.set_cons_succ, i64_w, i32_w]
           rfl
          refine take_ (i := 4) (N := some 38) (v := ?_) (a' := ?_) #[true, true, true, true, true, true, false, true, false, false, false, false] rfl rfl (take_ofW HT_.out HW_.out (by kernel_rfl)) (fun _ _ _ h => h) (Or.inl ⟨by rfl, ?_⟩) hHeld ?_ ?_
          rotate_left
          ·rintro w' ⟨s0, s1, s2, s3, s4, s5, s6, s7, s8, s9, s10, s11⟩
           go_simp
           with_reducible rfl
          rotate_left
          ·simp only [Act.put, List.setIfInBounds_toArray, List.set_cons_zero, List.set_cons_succ, i64_w, i32_w]
           rfl
          refine take_ (i := 6) (N := some 40) (v := ?_) (a' := ?_) #[true, true, true, true, true, true, true, true, false, false, false, false] rfl rfl (take_ofW HT_.out HW_.out (by kernel_rfl)) (fun _ _ _ h => h) (Or.inl ⟨by rfl, ?_⟩) hHeld ?_ ?_
          rotate_left
          ·rintro w' ⟨s0, s1, s2, s3, s4, s5, s6, s7, s8, s9, s10, s11⟩
           go_simp
           with_reducible rfl
          rotate_left
          ·simp only [Act.put, List.setIfInBounds_toArray, List.set_cons_zero, List.set_cons_succ, i64_w, i32_w]
           rfl
          refine pure_ (i := 8) (N := some 42) (v := ?_) (a' := ?_) #[true, true, true, true, true, true, true, true, true, false, false, false] rfl rfl (any_of HT_.out (by kernel_rfl)) (fun _ _ _ h => h) (Or.inl ⟨by rfl, ?_⟩) ?_ ?_
          rotate_left
          ·intro w'
           go_simp
           with_reducible rfl
          rotate_left
          ·simp only [Act.put, List.setIfInBounds_toArray, List.set_cons_zero, List.set_cons_succ, i64_w, i32_w]
           rfl
          refine take_ (i := 9) (N := some 43) (v := ?_) (a' := ?_) #[true, true, true, true, true, true, true, true, true, true, false, false] rfl rfl (take_ofW HT_.out HW_.out (by kernel_rfl)) (fun _ _ _ h => h) (Or.inl ⟨by rfl, ?_⟩) hHeld ?_ ?_
          rotate_left
          ·rintro w' ⟨s0, s1, s2, s3, s4, s5, s6, s7, s8, s9, s10, s11⟩
           go_simp
           with_reducible rfl
          rotate_left
          ·simp only [Act.put, List.setIfInBounds_toArray, List.set_cons_zero, List.set_cons_succ, i64_w, i32_w]
           rfl
          refine one_ (i := 10) (N := some 44) #[true, true, true, true, true, true, true, true, true, true, true, false] rfl rfl (one_of HT_.out (by kernel_rfl)) (by decide) (fun K hK => ?_)
          refine goes_ Try.func16 (by kernel_rfl) rfl #[.agg #[.int .i64 ((rd_T27 l0_2 x5_2).f0), .int .i64 ((rd_T27 l0_2 x5_2).f1), .slice A281_2 ((rd_T27 l0_2 x5_2).f2).length c281_2], .agg #[.int .i64 ((rd_T27 l1_2 x5_2).f0), .int .i64 ((rd_T27 l1_2 x5_2).f1), .slice A282_2 ((rd_T27 l1_2 x5_2).f2).length c282_2]] (by rfl) rfl rfl (by (try simp only [List.map_toArray, List.map_cons, List.map_nil]); first | done | rfl | (simp only [List.length_drop, List.length_take]; rfl)) ?_
          with_reducible refine (ih k2 (by have := HJ2.out; have := HK2.out; omega) ((rd_T27 l0_2 x5_2).f0) ((rd_T27 l0_2 x5_2).f1) _ _ ((rd_T27 l0_2 x5_2).f2) ((rd_T27 l1_2 x5_2).f0) ((rd_T27 l1_2 x5_2).f1) _ _ ((rd_T27 l1_2 x5_2).f2) true _ ?side1 ?side2 ?side3 ?side4 A21.out).mono ?_
          (case side1 => repeat (first | exact (Kd.C_below HR281_2.out HB.out) | (with_reducible refine Kd.C_alloc ?_ _) | (with_reducible refine Kd.C_drewN ?_ _) | (with_reducible refine Kd.C_drew ?_)))
          (case side2 => exact HC281_2.out)
          (case side3 => repeat (first | exact (Kd.C_below HR282_2.out HB.out) | (with_reducible refine Kd.C_alloc ?_ _) | (with_reducible refine Kd.C_drewN ?_ _) | (with_reducible refine Kd.C_drew ?_)))
          (case side4 => exact HC282_2.out)
          rintro e w26 ⟨rfl, hb⟩
          refine ⟨_, rfl, ?_⟩
          have n0_ := Aside0.mk (blk_below (g := gb279) (o := .cells #[.int .i64 a0_0, .int .i64 a0_1, .slice (some ad281) l0_2.length c0_2] 27 (0, 0)) (by (with_reducible repeat (first | refine blk_drewN ?_ _ | refine blk_drew ?_ | refine blk_alloc ?_ _)); exact BK279.out) hb)
          have n1_ := Aside0.mk (blk_below (g := gb280) (o := .cells #[.int .i64 a1_0, .int .i64 a1_1, .slice (some ad282) l1_2.length c1_2] 27 (0, 0)) (by (with_reducible repeat (first | refine blk_drewN ?_ _ | refine blk_drew ?_ | refine blk_alloc ?_ _)); exact BK280.out) hb)
          have n2_ := Aside0.mk (below_step (by repeat (first | (with_reducible first | exact HB.out | apply below_alloc | apply pw_below_drewN | apply below_drew1 | refine below_set ?_ GE279.out | refine below_set ?_ GE280.out) | exact HB.out)) hb)
          clear BK279
          clear BK280
          clear HB
          have BK279 := n0_
          have BK280 := n1_
          have HB := n2_
          clear n0_ n1_ n2_
          (try clear hb)
          (try clear hb2)
          (try clear hk)
          (try clear hi)
          refine hK.out _ _ ⟨(blk_cell BK279.out 0).trans rfl, (blk_cell BK279.out 1).trans rfl, (blk_cell BK279.out 2).trans rfl, (blk_cell BK280.out 0).trans rfl, (blk_cell BK280.out 1).trans rfl, (blk_cell BK280.out 2).trans rfl, ((HB.out.cell (World.block_lt_of_cell? w _ hw281_0)).trans hw281_0), ((HB.out.cell (World.block_lt_of_cell? w _ hw281_1)).trans hw281_1), ((HB.out.cell (World.block_lt_of_cell? w _ hw281_2)).trans hw281_2), ((HB.out.cell (World.block_lt_of_cell? w _ hw282_0)).trans hw282_0), ((HB.out.cell (World.block_lt_of_cell? w _ hw282_1)).trans hw282_1), ((HB.out.cell (World.block_lt_of_cell? w _ hw282_2)).trans hw282_2)⟩ (fun hHeld => ?_)
          clear hK K
          refine norm_ (a' := ?_) ?_ ?_
          rotate_left
          ·show Act.put _ (some 44) _ = _
           simp only [Act.put, List.setIfInBounds_toArray, List.set_cons_zero, List.set_cons_succ, i64_w, i32_w]
           rfl
          refine pure_ (i := 11) (N := some 45) (v := ?_) (a' := ?_) #[true, true, true, true, true, true, true, true, true, true, true, true] rfl rfl (any_of HT_.out (by kernel_rfl)) (fun _ _ _ h => h) (Or.inl ⟨by rfl, ?_⟩) ?_ ?_
          rotate_left
          ·intro w'
           go_simp
           with_reducible rfl
          rotate_left
          ·simp only [Act.put, List.setIfInBounds_toArray, List.set_cons_zero, List.set_cons_succ, i64_w, i32_w]
           rfl
          refine done_ (done_of HT_.out (by kernel_rfl)) ?_
          try go_wp2
          go_roundg k2
          case measure => have := HJ2.out; have := HK2.out; omega
          case rel => exact ⟨(wrap64 (x5_2 + 1)), (by first | rfl | (simp; done) | (simp [*]; done)), H', ⟨by have := HJ2.out; have := HK2.out; omega⟩, ⟨by (with_reducible repeat (first | refine blk_drewN ?_ _ | refine blk_drew ?_ | refine blk_alloc ?_ _)); exact BK279.out⟩, ⟨by (with_reducible repeat (first | refine blk_drewN ?_ _ | refine blk_drew ?_ | refine blk_alloc ?_ _)); exact BK280.out⟩, ⟨by repeat (first | (with_reducible first | exact HB.out | apply below_alloc | apply pw_below_drewN | apply below_drew1 | refine below_set ?_ GE279.out | refine below_set ?_ GE280.out) | exact HB.out)⟩⟩
         ·replace c22 := Bool.eq_false_iff.mpr c22
          subst c22
          have H1 : (some false) = some r := by rw [if_neg (show ¬ (false = true) by decide)] at H; exact H
          clear H
          have H := H1
          clear H1
          obtain rfl := Option.some.inj H
          have hnb27 := NB279_280.out
          have hnc27 := NB280_279.out
          have hcz28_0 : wr.cell? ⟨gb279, 0, none⟩ = some (.int .i64 a0_0) := (blk_cell BK279.out 0).trans rfl
          have hcz28_1 : wr.cell? ⟨gb279, 1, none⟩ = some (.int .i64 a0_1) := (blk_cell BK279.out 1).trans rfl
          have hcz28_2 : wr.cell? ⟨gb279, 2, none⟩ = some (.slice A0_2 l0_2.length c0_2) := (blk_cell BK279.out 2).trans rfl
          have hfz28_0 := blk_frozen BK279.out 0
          have hfz28_1 := blk_frozen BK279.out 1
          have hfz28_2 := blk_frozen BK279.out 2
          try go_wp2
          have n0_ := Aside0.mk (blk_drew BK279.out)
          have n1_ := Aside0.mk (blk_drew BK280.out)
          have n2_ := Aside0.mk (below_drew1 HB.out)
          clear BK279
          clear BK280
          clear HB
          have BK279 := n0_
          have BK280 := n1_
          have HB := n2_
          clear n0_ n1_ n2_
          have p281 : 0 ≤ (x5_2 : Int) := of_decide_eq_true (by first | (with_reducible assumption) | assumption)
          have q281 : x5_2 < (l0_2.length : Int) := of_decide_eq_true (by first | (with_reducible assumption) | assumption)
          obtain ⟨ad281, A281_2, c281_2, e281, hx281_0, hx281_1, hx281_2, hl281_2, hi281_2⟩ := at_T27 HR0_2.out x5_2 p281 q281
          have hw281_2 := hx281_2
          have hw281_1 := hx281_1
          have hw281_0 := hx281_0
          cases e281
          replace hx281_0 := (HB.out.cell (World.block_lt_of_cell? w _ hx281_0)).trans hx281_0
          replace hx281_1 := (HB.out.cell (World.block_lt_of_cell? w _ hx281_1)).trans hx281_1
          replace hx281_2 := (HB.out.cell (World.block_lt_of_cell? w _ hx281_2)).trans hx281_2
          have HR281_2 := Aside0.mk hi281_2
          have HC281_2 := Aside0.mk hl281_2
          clear hi281_2 hl281_2
          replace p281 := eq_true p281
          replace q281 := eq_true q281
          have p282 : 0 ≤ (x5_2 : Int) := of_decide_eq_true (by first | (with_reducible assumption) | assumption)
          have q282 : x5_2 < (l1_2.length : Int) := of_decide_eq_true (by first | (with_reducible assumption) | assumption)
          obtain ⟨ad282, A282_2, c282_2, e282, hx282_0, hx282_1, hx282_2, hl282_2, hi282_2⟩ := at_T27 HR1_2.out x5_2 p282 q282
          have hw282_2 := hx282_2
          have hw282_1 := hx282_1
          have hw282_0 := hx282_0
          cases e282
          replace hx282_0 := (HB.out.cell (World.block_lt_of_cell? w _ hx282_0)).trans hx282_0
          replace hx282_1 := (HB.out.cell (World.block_lt_of_cell? w _ hx282_1)).trans hx282_1
          replace hx282_2 := (HB.out.cell (World.block_lt_of_cell? w _ hx282_2)).trans hx282_2
          have HR282_2 := Aside0.mk hi282_2
          have HC282_2 := Aside0.mk hl282_2
          clear hi282_2 hl282_2
          replace p282 := eq_true p282
          replace q282 := eq_true q282
          refine start_ (n := 12) (S := fun w' => w'.cell? ⟨gb279, 0, none⟩ = some (.int .i64 a0_0) ∧ w'.cell? ⟨gb279, 1, none⟩ = some (.int .i64 a0_1) ∧ w'.cell? ⟨gb279, 2, none⟩ = some (.slice (some ad281) l0_2.length c0_2) ∧ w'.cell? ⟨gb280, 0, none⟩ = some (.int .i64 a1_0) ∧ w'.cell? ⟨gb280, 1, none⟩ = some (.int .i64 a1_1) ∧ w'.cell? ⟨gb280, 2, none⟩ = some (.slice (some ad282) l1_2.length c1_2) ∧ w'.cell? (ad281.add ((x5_2).toNat * 3)) = some (.int .i64 ((rd_T27 l0_2 x5_2).f0)) ∧ w'.cell? ⟨(ad281.add ((x5_2).toNat * 3)).block, (ad281.add ((x5_2).toNat * 3)).off + 1, none⟩ = some (.int .i64 ((rd_T27 l0_2 x5_2).f1)) ∧ w'.cell? ⟨(ad281.add ((x5_2).toNat * 3)).block, (ad281.add ((x5_2).toNat * 3)).off + 2, none⟩ = some (.slice A281_2 ((rd_T27 l0_2 x5_2).f2).length c281_2) ∧ w'.cell? (ad282.add ((x5_2).toNat * 3)) = some (.int .i64 ((rd_T27 l1_2 x5_2).f0)) ∧ w'.cell? ⟨(ad282.add ((x5_2).toNat * 3)).block, (ad282.add ((x5_2).toNat * 3)).off + 1, none⟩ = some (.int .i64 ((rd_T27 l1_2 x5_2).f1)) ∧ w'.cell? ⟨(ad282.add ((x5_2).toNat * 3)).block, (ad282.add ((x5_2).toNat * 3)).off + 2, none⟩ = some (.slice A282_2 ((rd_T27 l1_2 x5_2).f2).length c282_2)) (ds := []) #[false, false, false, false, false, false, false, false, false, false, false, false] (by kernel_rfl) rfl rfl ⟨(blk_cell BK279.out 0).trans rfl, (blk_cell BK279.out 1).trans rfl, (blk_cell BK279.out 2).trans rfl, (blk_cell BK280.out 0).trans rfl, (blk_cell BK280.out 1).trans rfl, (blk_cell BK280.out 2).trans rfl, ((HB.out.cell (World.block_lt_of_cell? w _ hw281_0)).trans hw281_0), ((HB.out.cell (World.block_lt_of_cell? w _ hw281_1)).trans hw281_1), ((HB.out.cell (World.block_lt_of_cell? w _ hw281_2)).trans hw281_2), ((HB.out.cell (World.block_lt_of_cell? w _ hw282_0)).trans hw282_0), ((HB.out.cell (World.block_lt_of_cell? w _ hw282_1)).trans hw282_1), ((HB.out.cell (World.block_lt_of_cell? w _ hw282_2)).trans hw282_2)⟩ (fun hHeld => ?_); refine with_tabW tenetref24_Eq.tab6 tenetref24_Eq.bits6 (fun HT_ HW_ => ?_)
          generalize wr.drew = w29 at BK279 BK280 HB HR281_2 HR282_2 hx281_0 hx281_1 hx281_2 hx282_0 hx282_1 hx282_2 hHeld ⊢
          refine pure_ (i := 0) (N := some 34) (v := ?_) (a' := ?_) #[true, false, false, false, false, false, false, false, false, false, false, false] rfl rfl (any_of HT_.out (by kernel_rfl)) (fun _ _ _ h => h) (Or.inl ⟨by rfl, ?_⟩) ?_ ?_
          rotate_left
          ·intro w'
           go_simp
           with_reducible rfl
          rotate_left
          ·simp only [Act.put, List.setIfInBounds_toArray, List.set_cons_zero, List.set_cons_succ, i64_w, i32_w]
           rfl
          refine pure_ (i := 2) (N := some 36) (v := ?_) (a' := ?_) #[true, false, true, false, false, false, false, false, false, false, false, false] rfl rfl (any_of HT_.out (by kernel_rfl)) (fun _ _ _ h => h) (Or.inl ⟨by rfl, ?_⟩) ?_ ?_
          rotate_left
          ·intro w'
           go_simp
           with_reducible rfl
          rotate_left
          ·simp only [Act.put, List.setIfInBounds_toArray, List.set_cons_zero, List.set_cons_succ, i64_w, i32_w]
           rfl
          refine pure_ (i := 5) (N := some 39) (v := ?_) (a' := ?_) #[true, false, true, false, false, true, false, false, false, false, false, false] rfl rfl (any_of HT_.out (by kernel_rfl)) (fun _ _ _ h => h) (Or.inl ⟨by rfl, ?_⟩) ?_ ?_
          rotate_left
          ·intro w'
           go_simp
           with_reducible rfl
          rotate_left
          ·simp only [Act.put, List.setIfInBounds_toArray, List.set_cons_zero, List.set_cons_succ, i64_w, i32_w]
           rfl
          refine pure_ (i := 7) (N := some 41) (v := ?_) (a' := ?_) #[true, false, true, false, false, true, false, true, false, false, false, false] rfl rfl (any_of HT_.out (by kernel_rfl)) (fun _ _ _ h => h) (Or.inl ⟨by rfl, ?_⟩) ?_ ?_
          rotate_left
          ·intro w'
           go_simp
           with_reducible rfl
          rotate_left
          ·simp only [Act.put, List.setIfInBounds_toArray, List.set_cons_zero, List.set_cons_succ, i64_w, i32_w]
           rfl
          refine take_ (i := 1) (N := some 35) (v := ?_) (a' := ?_) #[true, true, true, false, false, true, false, true, false, false, false, false] rfl rfl (take_ofW HT_.out HW_.out (by kernel_rfl)) (fun _ _ _ h => h) (Or.inl ⟨by rfl, ?_⟩) hHeld ?_ ?_
          rotate_left
          ·rintro w' ⟨s0, s1, s2, s3, s4, s5, s6, s7, s8, s9, s10, s11⟩
           go_simp
           with_reducible rfl
          rotate_left
          ·simp only [Act.put, List.setIfInBounds_toArray, List.set_cons_zero, List.set_cons_succ, i64_w, i32_w]
           rfl
          refine pure_ (i := 3) (N := some 37) (v := ?_) (a' := ?_) #[true, true, true, true, false, true, false, true, false, false, false, false] rfl rfl (any_of HT_.out (by kernel_rfl)) (fun _ _ _ h => h) (Or.inl ⟨by rfl, ?_⟩) ?_ ?_
          rotate_left
          ·intro w'
           go_simp
           with_reducible rfl
          rotate_left
          ·simp only [Act.put, List.setIfInBounds_toArray, List.set_cons_zero, List.set_cons_succ, i64_w, i32_w]
           rfl
          refine take_ (i := 4) (N := some 38) (v := ?_) (a' := ?_) #[true, true, true, true, true, true, false, true, false, false, false, false] rfl rfl (take_ofW HT_.out HW_.out (by kernel_rfl)) (fun _ _ _ h => h) (Or.inl ⟨by rfl, ?_⟩) hHeld ?_ ?_
          rotate_left
          ·rintro w' ⟨s0, s1, s2, s3, s4, s5, s6, s7, s8, s9, s10, s11⟩
           go_simp
           with_reducible rfl
          rotate_left
          ·simp only [Act.put, List.setIfInBounds_toArray, List.set_cons_zero, List.set_cons_succ, i64_w, i32_w]
           rfl
          refine take_ (i := 6) (N := some 40) (v := ?_) (a' := ?_) #[true, true, true, true, true, true, true, true, false, false, false, false] rfl rfl (take_ofW HT_.out HW_.out (by kernel_rfl)) (fun _ _ _ h => h) (Or.inl ⟨by rfl, ?_⟩) hHeld ?_ ?_
          rotate_left
          ·rintro w' ⟨s0, s1, s2, s3, s4, s5, s6, s7, s8, s9, s10, s11⟩
           go_simp
           with_reducible rfl
          rotate_left
          ·simp only [Act.put, List.setIfInBounds_toArray, List.set_cons_zero, List.set_cons_succ, i64_w, i32_w]
           rfl
          refine pure_ (i := 8) (N := some 42) (v := ?_) (a' := ?_) #[true, true, true, true, true, true, true, true, true, false, false, false] rfl rfl (any_of HT_.out (by kernel_rfl)) (fun _ _ _ h => h) (Or.inl ⟨by rfl, ?_⟩) ?_ ?_
          rotate_left
          ·intro w'
           go_simp
           with_reducible rfl
          rotate_left
          ·simp only [Act.put, List.setIfInBounds_toArray, List.set_cons_zero, List.set_cons_succ, i64_w, i32_w]
           rfl
          refine take_ (i := 9) (N := some 43) (v := ?_) (a' := ?_) #[true, true, true, true, true, true, true, true, true, true, false, false] rfl rfl (take_ofW HT_.out HW_.out (by kernel_rfl)) (fun _ _ _ h => h) (Or.inl ⟨by rfl, ?_⟩) hHeld ?_ ?_
          rotate_left
          ·rintro w' ⟨s0, s1, s2, s3, s4, s5, s6, s7, s8, s9, s10, s11⟩
           go_simp
           with_reducible rfl
          rotate_left
          ·simp only [Act.put, List.setIfInBounds_toArray, List.set_cons_zero, List.set_cons_succ, i64_w, i32_w]
           rfl
          refine one_ (i := 10) (N := some 44) #[true, true, true, true, true, true, true, true, true, true, true, false] rfl rfl (one_of HT_.out (by kernel_rfl)) (by decide) (fun K hK => ?_)
          refine goes_ Try.func16 (by kernel_rfl) rfl #[.agg #[.int .i64 ((rd_T27 l0_2 x5_2).f0), .int .i64 ((rd_T27 l0_2 x5_2).f1), .slice A281_2 ((rd_T27 l0_2 x5_2).f2).length c281_2], .agg #[.int .i64 ((rd_T27 l1_2 x5_2).f0), .int .i64 ((rd_T27 l1_2 x5_2).f1), .slice A282_2 ((rd_T27 l1_2 x5_2).f2).length c282_2]] (by rfl) rfl rfl (by (try simp only [List.map_toArray, List.map_cons, List.map_nil]); first | done | rfl | (simp only [List.length_drop, List.length_take]; rfl)) ?_
          with_reducible refine (ih k2 (by have := HJ2.out; have := HK2.out; omega) ((rd_T27 l0_2 x5_2).f0) ((rd_T27 l0_2 x5_2).f1) _ _ ((rd_T27 l0_2 x5_2).f2) ((rd_T27 l1_2 x5_2).f0) ((rd_T27 l1_2 x5_2).f1) _ _ ((rd_T27 l1_2 x5_2).f2) false _ ?side1 ?side2 ?side3 ?side4 A21.out).mono ?_
          (case side1 => repeat (first | exact (Kd.C_below HR281_2.out HB.out) | (with_reducible refine Kd.C_alloc ?_ _) | (with_reducible refine Kd.C_drewN ?_ _) | (with_reducible refine Kd.C_drew ?_)))
          (case side2 => exact HC281_2.out)
          (case side3 => repeat (first | exact (Kd.C_below HR282_2.out HB.out) | (with_reducible refine Kd.C_alloc ?_ _) | (with_reducible refine Kd.C_drewN ?_ _) | (with_reducible refine Kd.C_drew ?_)))
          (case side4 => exact HC282_2.out)
          rintro e w30 ⟨rfl, hb⟩
          refine ⟨_, rfl, ?_⟩
          have n0_ := Aside0.mk (blk_below (g := gb279) (o := .cells #[.int .i64 a0_0, .int .i64 a0_1, .slice (some ad281) l0_2.length c0_2] 27 (0, 0)) (by (with_reducible repeat (first | refine blk_drewN ?_ _ | refine blk_drew ?_ | refine blk_alloc ?_ _)); exact BK279.out) hb)
          have n1_ := Aside0.mk (blk_below (g := gb280) (o := .cells #[.int .i64 a1_0, .int .i64 a1_1, .slice (some ad282) l1_2.length c1_2] 27 (0, 0)) (by (with_reducible repeat (first | refine blk_drewN ?_ _ | refine blk_drew ?_ | refine blk_alloc ?_ _)); exact BK280.out) hb)
          have n2_ := Aside0.mk (below_step (by repeat (first | (with_reducible first | exact HB.out | apply below_alloc | apply pw_below_drewN | apply below_drew1 | refine below_set ?_ GE279.out | refine below_set ?_ GE280.out) | exact HB.out)) hb)
          clear BK279
          clear BK280
          clear HB
          have BK279 := n0_
          have BK280 := n1_
          have HB := n2_
          clear n0_ n1_ n2_
          (try clear hb)
          (try clear hb2)
          (try clear hk)
          (try clear hi)
          refine hK.out _ _ ⟨(blk_cell BK279.out 0).trans rfl, (blk_cell BK279.out 1).trans rfl, (blk_cell BK279.out 2).trans rfl, (blk_cell BK280.out 0).trans rfl, (blk_cell BK280.out 1).trans rfl, (blk_cell BK280.out 2).trans rfl, ((HB.out.cell (World.block_lt_of_cell? w _ hw281_0)).trans hw281_0), ((HB.out.cell (World.block_lt_of_cell? w _ hw281_1)).trans hw281_1), ((HB.out.cell (World.block_lt_of_cell? w _ hw281_2)).trans hw281_2), ((HB.out.cell (World.block_lt_of_cell? w _ hw282_0)).trans hw282_0), ((HB.out.cell (World.block_lt_of_cell? w _ hw282_1)).trans hw282_1), ((HB.out.cell (World.block_lt_of_cell? w _ hw282_2)).trans hw282_2)⟩ (fun hHeld => ?_)
          clear hK K
          refine norm_ (a' := ?_) ?_ ?_
          rotate_left
          ·show Act.put _ (some 44) _ = _
           simp only [Act.put, List.setIfInBounds_toArray, List.set_cons_zero, List.set_cons_succ, i64_w, i32_w]
           rfl
          refine pure_ (i := 11) (N := some 45) (v := ?_) (a' := ?_) #[true, true, true, true, true, true, true, true, true, true, true, true] rfl rfl (any_of HT_.out (by kernel_rfl)) (fun _ _ _ h => h) (Or.inl ⟨by rfl, ?_⟩) ?_ ?_
          rotate_left
          ·intro w'
           go_simp
           with_reducible rfl
          rotate_left
          ·simp only [Act.put, List.setIfInBounds_toArray, List.set_cons_zero, List.set_cons_succ, i64_w, i32_w]
           rfl
          refine done_ (done_of HT_.out (by kernel_rfl)) ?_
          try go_wp2
          go_ret
          exact ⟨by first | rfl | (simp [errW_none, errW_some] <;> rfl) | (simp [*, errW_none, errW_some] <;> rfl), by repeat (first | (with_reducible first | exact HB.out | apply below_alloc | apply pw_below_drewN | apply below_drew1 | refine below_set ?_ GE279.out | refine below_set ?_ GE280.out) | exact HB.out)⟩
        ·rw [if_neg c20] at H
         exact absurd H (by simp)
       ·rw [if_neg c19] at H
        exact absurd H (by simp)
      ·rw [if_neg c18] at H
       have c18b0 : decide (x5_2 < (l0_2.length : Int)) = false := decide_eq_false c18
       clear c18
       obtain rfl := Option.some.inj H
       have hnb31 := NB279_280.out
       have hnc31 := NB280_279.out
       have hcz32_0 : wr.cell? ⟨gb279, 0, none⟩ = some (.int .i64 a0_0) := (blk_cell BK279.out 0).trans rfl
       have hcz32_1 : wr.cell? ⟨gb279, 1, none⟩ = some (.int .i64 a0_1) := (blk_cell BK279.out 1).trans rfl
       have hcz32_2 : wr.cell? ⟨gb279, 2, none⟩ = some (.slice A0_2 l0_2.length c0_2) := (blk_cell BK279.out 2).trans rfl
       have hfz32_0 := blk_frozen BK279.out 0
       have hfz32_1 := blk_frozen BK279.out 1
       have hfz32_2 := blk_frozen BK279.out 2
       go_wp2
       go_ret
       exact ⟨by first | rfl | (simp [errW_none, errW_some] <;> rfl) | (simp [*, errW_none, errW_some] <;> rfl), by repeat (first | (with_reducible first | exact HB.out | apply below_alloc | apply pw_below_drewN | apply below_drew1 | refine below_set ?_ GE279.out | refine below_set ?_ GE280.out) | exact HB.out)⟩
end Go.Proofs.Ythkclagcbjnckaa.Pa

namespace Go.Proofs.Ythkclagcbjnckaa.Pa
set_option linter.unusedVariables false
set_option linter.unusedSimpArgs false
open Go.RowKit Go.Proofs.YthkclagcbjnckaaW.PrintWords Go.Proofs.YthkclagcbjnckaaW.PrintLast Go.Proofs.YthkclagcbjnckaaW.PrintMore
theorem Eq_self (x : S27) : nodes x ≤ 1152921504606846976 → Ev (fun k => tenetref24_Eq.f k x.f0 x.f1 x.f2 x.f0 x.f1 x.f2) true := by
  induction x using S27.ind with
  | h x ih =>
  intro hn
  have hlen := length_nodesL x.f2
  rw [nodes_eq] at hn
  have loop : ∀ (r pre : List S27), x.f2 = pre ++ r → Ev (fun k => tenetref24_Eq.l0 k (pre.length : Int) x.f0 x.f1 x.f2 x.f0 x.f1 x.f2) true := by
    intro r
    induction r with
    | nil =>
      intro pre hp
      rw [List.append_nil] at hp
      refine Ev.step (f := fun _ => some true) (fun k => ?_) (Ev.now _)
      simp only [tenetref24_Eq.l0]
      rw [if_neg (by rw [hp]; omega)]
    | cons y r ih2 =>
      intro pre hp
      have hlt : pre.length < x.f2.length := by rw [hp]; simp
      have ey : rd_T27 x.f2 (pre.length : Int) = y := by rw [hp]; exact rdS_mid _ _ _
      have hy : y ∈ x.f2 := by rw [hp]; simp
      have h1 := ih y hy (by have := nodesL_mem hy; omega)
      have h2 := ih2 (pre ++ [y]) (by rw [hp]; simp)
      rw [List.length_append, List.length_singleton] at h2
      refine Ev.step (f := fun k => (tenetref24_Eq.f k y.f0 y.f1 y.f2 y.f0 y.f1 y.f2).bind fun t => if t = true then tenetref24_Eq.l0 k (wrap64 ((pre.length : Int) + 1)) x.f0 x.f1 x.f2 x.f0 x.f1 x.f2 else some false) (fun k => ?_) ?_
      · simp only [tenetref24_Eq.l0]
        rw [if_pos (by omega), if_pos (by omega), if_pos (by omega), ey]
      · refine Ev.bind h1 ?_
        simp only [if_true]
        rw [wrap_succ _ (by omega)]
        exact h2
  refine Ev.step (f := fun k => tenetref24_Eq.j0 k false x.f0 x.f1 x.f2 x.f0 x.f1 x.f2) (fun k => ?_) ?_
  · rw [tenetref24_Eq.f, if_pos rfl, if_pos rfl, show ((x.f2.length : Int) != (x.f2.length : Int)) = false from bne_self_eq_false _]
  · refine Ev.step (f := fun k => tenetref24_Eq.l0 k 0 x.f0 x.f1 x.f2 x.f0 x.f1 x.f2) (fun k => ?_) (loop x.f2 [] rfl)
    rw [tenetref24_Eq.j0, if_neg (by simp)]
def step (o : Option S27) (p : S27) : Option S27 := some (match o with | none => p | some x => two4 x p)
def zz : S27 := ⟨0, 0, []⟩
def buildOf (res : Int × Int × List S27 × Int) : S27 := ⟨res.1, res.2.1, res.2.2.1⟩
section
variable (l : List S60) (ix : Int) (out : S27) (res : Int × Int × List S27 × Int)
theorem ring_inner (es : List Int) (i n : Nat) (hb : n ≤ 1000) (hi : i ≤ 1000) : ∀ (d j : Nat) (o : Option S27), j + d = n →
    Ev (fun k => ring_Build.l1 k l ix ((List.replicate d ⟨2, (i : Int), []⟩).foldl step o).isSome l (l.length : Int) ix es (es.length : Int) (wrap64 ((i : Int) + 1)) out.f0 out.f1 out.f2
      (((List.replicate d ⟨2, (i : Int), []⟩).foldl step o).getD zz).f0 (((List.replicate d ⟨2, (i : Int), []⟩).foldl step o).getD zz).f1 (((List.replicate d ⟨2, (i : Int), []⟩).foldl step o).getD zz).f2) res →
    Ev (fun k => ring_Build.l2 k l ix o.isSome (i : Int) l (l.length : Int) ix es (es.length : Int) (i : Int) (n : Int) (j : Int) out.f0 out.f1 out.f2 (o.getD zz).f0 (o.getD zz).f1 (o.getD zz).f2) res := by
  intro d
  induction d with
  | zero =>
    intro j o hj h
    refine Ev.step (fun k => ?_) h
    simp only [ring_Build.l2]
    rw [if_neg (by omega)]; rfl
  | succ d ih =>
    intro j o hj h
    have h' := ih (j + 1) (step o ⟨2, (i : Int), []⟩) (by omega) (by simpa [List.replicate_succ] using h)
    refine Ev.step (fun k => ?_) h'
    simp only [ring_Build.l2]
    rw [if_pos (by omega), wrap_succ j (by omega)]
    cases o with
    | none => rfl
    | some x =>
      simp only [Option.isSome_some, if_true, ring_pair.f, Option.bind_some, Option.getD_some]
      cases x; rfl
theorem ring_outer (es : List Int) (h8 : es.length = 8) (hx : ∀ x ∈ es, 0 ≤ x ∧ x ≤ 60) (nx : Option S27 → Nat → Option (Int × Int × List S27 × Int))
    (hend : ∀ (o : Option S27), Ev (nx o) res → Ev (fun k => ring_Build.l1 k l ix o.isSome l (l.length : Int) ix es (es.length : Int) 8 out.f0 out.f1 out.f2 (o.getD zz).f0 (o.getD zz).f1 (o.getD zz).f2) res) :
    ∀ (r pre : List Int) (o : Option S27), es = pre ++ r → Ev (nx ((varsF (pre.length : Int) r).foldl step o)) res →
    Ev (fun k => ring_Build.l1 k l ix o.isSome l (l.length : Int) ix es (es.length : Int) (pre.length : Int) out.f0 out.f1 out.f2 (o.getD zz).f0 (o.getD zz).f1 (o.getD zz).f2) res := by
  intro r
  induction r with
  | nil =>
    intro pre o hp h
    rw [List.append_nil] at hp
    have e : (pre.length : Int) = 8 := by rw [← hp]; omega
    rw [e]
    exact hend o (by simpa [varsF] using h)
  | cons n r ih =>
    intro pre o hp h
    have hlt : pre.length < es.length := by rw [hp]; simp
    have hn := hx n (by rw [hp]; simp)
    have en : rd es (pre.length : Int) = (n.toNat : Int) := by rw [hp, rdI_mid]; omega
    refine Ev.step (f := fun k => ring_Build.l2 k l ix o.isSome (pre.length : Int) l (l.length : Int) ix es (es.length : Int) (pre.length : Int) (n.toNat : Int) ((0 : Nat) : Int) out.f0 out.f1 out.f2 (o.getD zz).f0 (o.getD zz).f1 (o.getD zz).f2) (fun k => ?_) ?_
    · simp only [ring_Build.l1]
      rw [if_pos (by omega), if_pos (by omega), if_pos (by omega), en]; rfl
    · refine ring_inner l ix out res es pre.length n.toNat (by omega) (by omega) n.toNat 0 o (by omega) ?_
      rw [wrap_succ _ (by omega)]
      have := ih (pre ++ [n]) ((List.replicate n.toNat ⟨2, (pre.length : Int), []⟩).foldl step o) (by rw [hp]; simp)
      simp only [List.length_append, List.length_singleton] at this
      refine this ?_
      rw [varsF, List.foldl_append] at h
      push_cast
      exact h
end
def one_ : S27 := ⟨1, 1, []⟩
def moT (m : S60) : S27 := prodT (partsT m)
theorem fold_step : ∀ (r : List S27) (p : S27), r.foldl step (some p) = some (r.foldl two4 p)
  | [], _ => rfl
  | y :: r, p => fold_step r (two4 p y)
def start (m : S60) : Option S27 := if m.f0 = 1 then none else some ⟨1, m.f0, []⟩
theorem moT_eq (m : S60) (h : 1 ≤ m.f0) : ((varsF 0 m.f1).foldl step (start m)).getD one_ = moT m := by
  unfold moT partsT start
  by_cases h1 : m.f0 = 1
  · rw [if_pos h1, if_neg (by omega)]
    cases hv : varsF 0 m.f1 with
    | nil => simp [prodT, one_, h1]
    | cons p r =>
      rw [if_neg (by simp)]
      show (r.foldl step (some p)).getD one_ = _
      rw [fold_step]; rfl
  · rw [if_neg h1, if_pos (by omega), fold_step]; rfl
def err2 : Int × Int × List S27 × Int := (0, 0, [], 2)
def t4 (x : S27) : Int × Int × List S27 × Int := (x.f0, x.f1, x.f2, 0)
def addT (o : Option S27) (m : S60) : Option S27 := some (match o with | none => moT m | some x => ⟨3, 0, [x, moT m]⟩)
def okM (m : S60) : Prop := 1 ≤ m.f0 ∧ m.f1.length = 8 ∧ ∀ x ∈ m.f1, 0 ≤ x ∧ x ≤ 60
def big6 (m : S60) : Bool := decide (m.f0 > 1000000)
def finish (l : List S60) (o : Option S27) : Int × Int × List S27 × Int := if l.length = 0 then (1, 0, [], 0) else if nodes (o.getD zz) > 2000 then err2 else t4 (o.getD zz)
theorem nodes_fold : ∀ (r : List S27) (p : S27), (∀ y ∈ r, nodes y = 1) → nodes (r.foldl two4 p) = nodes p + 2 * r.length
  | [], _, _ => by simp
  | y :: r, p, h => by
    rw [List.foldl_cons, nodes_fold r (two4 p y) (fun z hz => h z (by simp [hz])), two4, nodes_two, h y (by simp), List.length_cons]
    omega
theorem varsF_leaf : ∀ (i : Int) (l : List Int), ∀ y ∈ varsF i l, nodes y = 1
  | _, [], y, h => by simp [varsF] at h
  | i, n :: r, y, h => by
    rw [varsF, List.mem_append] at h
    rcases h with h | h
    · rw [(List.mem_replicate.1 h).2]; exact nodes_nil _ _
    · exact varsF_leaf (i + 1) r y h
theorem partsT_leaf (m : S60) : ∀ y ∈ partsT m, nodes y = 1 := by
  intro y hy
  unfold partsT at hy
  split at hy
  · rcases List.mem_cons.1 hy with rfl | hy
    · exact nodes_nil _ _
    · exact varsF_leaf _ _ y hy
  · split at hy
    · rw [List.mem_singleton] at hy; subst hy; exact nodes_nil _ _
    · exact varsF_leaf _ _ y hy
theorem partsT_ne (m : S60) : partsT m ≠ [] := by
  unfold partsT
  split
  · simp
  · split
    · simp
    · assumption
theorem nodes_moT (m : S60) : nodes (moT m) + 1 = 2 * (partsT m).length := by
  unfold moT
  have hl := partsT_leaf m
  have hne := partsT_ne m
  cases h : partsT m with
  | nil => exact absurd h hne
  | cons p r =>
    rw [h] at hl
    show nodes (r.foldl two4 p) + 1 = _
    rw [nodes_fold r p (fun y hy => hl y (by simp [hy])), hl p (by simp), List.length_cons]
    omega
theorem partsT_le (m : S60) (h : okM m) : (partsT m).length ≤ 481 := by
  have := varsF_len 0 m.f1 h.2.2
  rw [h.2.1] at this
  unfold partsT
  split
  · simp; omega
  · split
    · simp
    · omega
theorem ring_loop (l : List S60) (hl : l.length ≤ 200) (hm : ∀ m ∈ l, okM m) : ∀ (r pre : List S60) (o : Option S27), l = pre ++ r → (o.isSome = decide (0 < pre.length)) → nodes (o.getD zz) ≤ 1000 * pre.length + 1 →
    Ev (fun k => ring_Build.l0 k l l (l.length : Int) (pre.length : Int) (o.getD zz).f0 (o.getD zz).f1 (o.getD zz).f2) (if r.any big6 then err2 else finish l (r.foldl addT o)) := by
  intro r
  induction r with
  | nil =>
    intro pre o hp ho hn
    rw [List.append_nil] at hp
    simp only [List.any_nil, Bool.false_eq_true, if_false, List.foldl_nil]
    unfold finish
    by_cases h0 : l.length = 0
    · rw [if_pos h0]
      refine Ev.step (f := fun _ => some (1, 0, [], 0)) (fun k => ?_) (Ev.now _)
      simp only [ring_Build.l0]
      rw [if_neg (by rw [hp]; omega), if_pos (by omega)]; rfl
    · rw [if_neg h0]
      refine Ev.step (f := fun k => (ring_sizeOf.f k (o.getD zz).f0 (o.getD zz).f1 (o.getD zz).f2).bind fun bt => if bt.1 > 2000 then some err2 else some (t4 (o.getD zz))) (fun k => ?_) ?_
      · simp only [ring_Build.l0]
        rw [if_neg (by rw [hp]; omega), if_neg (by omega)]; rfl
      · have hpl : pre.length ≤ 200 := by rw [← hp]; exact hl
        refine Ev.bind (sizeOf_ev (o.getD zz) (by omega)) ?_
        by_cases hb : nodes (o.getD zz) > 2000
        · simp only [if_pos hb, if_pos (show ((nodes (o.getD zz) : Int)) > 2000 by omega)]; exact Ev.now _
        · simp only [if_neg hb, if_neg (show ¬ ((nodes (o.getD zz) : Int)) > 2000 by omega)]; exact Ev.now _
  | cons m r ih =>
    intro pre o hp ho hn
    have hlt : pre.length < l.length := by rw [hp]; simp
    have em : rd_T60 l (pre.length : Int) = m := by rw [hp]; exact rdM_mid _ _ _
    have hok := hm m (by rw [hp]; simp)
    by_cases hb : m.f0 > 1000000
    · have : (m :: r).any big6 = true := by simp [big6, hb]
      rw [this, if_pos rfl]
      refine Ev.step (f := fun _ => some err2) (fun k => ?_) (Ev.now _)
      simp only [ring_Build.l0]
      rw [if_pos (by omega), if_pos (by omega), if_pos (by omega), em, if_pos hb]; rfl
    · have e1 : (m :: r).any big6 = r.any big6 := by simp [big6, hb]
      rw [e1, List.foldl_cons]
      have hmo := nodes_moT m
      have hpl := partsT_le m hok
      have hih := ih (pre ++ [m]) (addT o m) (by rw [hp]; simp) (by simp [addT]) (by
        simp only [addT, Option.getD_some, List.length_append, List.length_singleton]
        cases o with
        | none => simp only; omega
        | some x => simp only [nodes_two]; simp only [Option.getD_some] at hn; omega)
      rw [List.length_append, List.length_singleton] at hih
      refine Ev.step (f := fun k => ring_Build.j1 k l (pre.length : Int) (start m).isSome l (l.length : Int) (pre.length : Int) (o.getD zz).f0 (o.getD zz).f1 (o.getD zz).f2 m.f0 m.f1 ((start m).getD zz).f0 ((start m).getD zz).f1 ((start m).getD zz).f2) (fun k => ?_) ?_
      · simp only [ring_Build.l0]
        rw [if_pos (by omega), if_pos (by omega), if_pos (by omega), em, if_neg hb]
        unfold start
        by_cases h1 : m.f0 = 1
        · rw [if_pos h1, if_pos h1]; rfl
        · rw [if_neg h1, if_neg h1]; rfl
      · refine Ev.step (f := fun k => ring_Build.l1 k l (pre.length : Int) (start m).isSome l (l.length : Int) (pre.length : Int) m.f1 (m.f1.length : Int) (([] : List Int).length : Int) (o.getD zz).f0 (o.getD zz).f1 (o.getD zz).f2 ((start m).getD zz).f0 ((start m).getD zz).f1 ((start m).getD zz).f2) (fun k => ?_) ?_
        · simp only [ring_Build.j1]; rfl
        · refine ring_outer l (pre.length : Int) (o.getD zz) _ m.f1 hok.2.1 hok.2.2
            (fun q k => ring_Build.l0 k l l (l.length : Int) (wrap64 ((pre.length : Int) + 1)) (if 0 < pre.length then (⟨3, 0, [o.getD zz, q.getD one_]⟩ : S27) else q.getD one_).f0 (if 0 < pre.length then (⟨3, 0, [o.getD zz, q.getD one_]⟩ : S27) else q.getD one_).f1 (if 0 < pre.length then (⟨3, 0, [o.getD zz, q.getD one_]⟩ : S27) else q.getD one_).f2)
            (fun q hq => ?_) m.f1 [] (start m) rfl ?_
          · refine Ev.step (fun k => ?_) hq
            simp only [ring_Build.l1]
            rw [if_neg (by rw [hok.2.1]; omega)]
            generalize o.getD zz = ou
            by_cases hk : 0 < pre.length
            · simp only [if_pos hk, if_pos (show ((pre.length : Int)) > 0 by omega)]
              cases q with
              | none =>
                simp only [Option.isSome_none, Bool.false_eq_true, if_false, ring_num.f, ring_pair.f, Option.bind_some, Option.getD_none, one_]
                cases ou; rfl
              | some x =>
                simp only [Option.isSome_some, if_true, ring_pair.f, Option.bind_some, Option.getD_some]
                cases ou; cases x; rfl
            · simp only [if_neg hk, if_neg (show ¬ ((pre.length : Int)) > 0 by omega)]
              cases q with
              | none => rfl
              | some x => rfl
          · have e2 : (if 0 < pre.length then (⟨3, 0, [o.getD zz, ((varsF ((([] : List Int).length : Nat) : Int) m.f1).foldl step (start m)).getD one_]⟩ : S27) else ((varsF ((([] : List Int).length : Nat) : Int) m.f1).foldl step (start m)).getD one_) = (addT o m).getD zz := by
              rw [show ((([] : List Int).length : Nat) : Int) = 0 from rfl, moT_eq m hok.1]
              cases o with
              | none =>
                have : ¬ 0 < pre.length := by simpa using ho.symm
                rw [if_neg this]; rfl
              | some x =>
                have : 0 < pre.length := by simpa using ho.symm
                rw [if_pos this]; rfl
            simp only [e2]
            rw [wrap_succ _ (by omega)]
            exact hih
end Go.Proofs.Ythkclagcbjnckaa.Pa


namespace Go.Proofs.Ythkclagcbjnckaa.Pa
open Go.RowKit Go.Proofs.YthkclagcbjnckaaW.PrintWords Go.Proofs.YthkclagcbjnckaaW.PrintLast Go.Proofs.YthkclagcbjnckaaW.PrintMore
attribute [local go_sem] max2_int min2_int max_two min_two max_three min_three max_four min_four
set_option linter.unusedVariables false
set_option linter.unusedSimpArgs false
def tenetlaw24_bigList.l0 : Nat → List (S60) → Int → Option (Bool)
 | 0, _, _ => none
 | k + 1, x0, x3 => if x3 < (x0.length : Int) then (if 0 ≤ x3 then (if (((rd_T60 x0 x3).f1).length : Int) > 20 then (some true) else (tenetlaw24_bigList.l0 k x0 (wrap64 (x3 + 1)))) else (none)) else (some false)
def tenetlaw24_bigList.f (k : Nat) (l0 : List (S60)) : Option (Bool) := if (l0.length : Int) > 300 then (some true) else (tenetlaw24_bigList.l0 k l0 0)
set_option maxHeartbeats 8000000 in
set_option maxRecDepth 100000 in
theorem tenetlaw24_bigList.calls (k : Nat) (A0 : Option Addr) (c0 : Nat) (l0 : List (S60)) (r : Bool) (w : World) (hr0 : Kd.C k60 w A0 l0.length l0) (hc0 : l0.length ≤ c0) (h : tenetlaw24_bigList.f k l0 = some r) :
  Calls Try.prog 12 #[.slice A0 l0.length c0] w fun e w' => e = .returned (.bool r) ∧ Drawn0 w w' := by
 have HR0 := Aside0.mk hr0
 have HC0 := Aside0.mk hc0
 clear hr0 hc0
 have H : (if (l0.length : Int) > 300 then (some true) else (tenetlaw24_bigList.l0 k l0 0)) = some r := h
 clear h
 by_cases c2 : (l0.length : Int) > 300
 ·rw [if_pos c2] at H
  have c2b0 : decide (300 < (l0.length : Int)) = true := decide_eq_true c2
  have c2b1 : decide (300 < l0.length) = true := decide_eq_true (by omega)
  clear c2
  obtain rfl := Option.some.inj H
  go_enter Try.func12, Try.ntmps12
  go_wp2
  go_ret
  exact ⟨by first | rfl | (simp; done) | (simp [*]; done), by repeat (first | exact Drawn0.refl _ | apply Drawn0.step)⟩
 ·rw [if_neg c2] at H
  have c2b0 : decide (300 < (l0.length : Int)) = false := decide_eq_false c2
  have c2b1 : decide (300 < l0.length) = false := decide_eq_false (by omega)
  clear c2
  have H' := Aside0.mk H
  clear H
  go_enter Try.func12, Try.ntmps12
  go_wp2
  go_loopg [3] k (fun kq v3 w' => ∃ (x3_1 : Int), v3 = .int .i64 x3_1 ∧ Aside0 (tenetlaw24_bigList.l0 kq l0 x3_1 = some r) ∧ Aside0 (kq ≤ k) ∧ Drawn0 w w')
  case atStart => exact ⟨(0), (by first | rfl | (simp; done) | (simp [*]; done)), H', ⟨Nat.le_refl _⟩, by repeat (first | exact Drawn0.refl _ | apply Drawn0.step)⟩
  case round =>
   clear H'
   try clear c1
   try clear c2
   try clear c2b0
   try clear c2b1
   try clear p2
   obtain ⟨x3_1, rfl, HA, HK1, ⟨m1, rfl⟩⟩ := hrel
   cases gk with
   | zero => exact absurd HA.out (by simp [tenetlaw24_bigList.l0])
   | succ k1 =>
    have H := HA.out
    clear HA
    simp only [tenetlaw24_bigList.l0] at H
    by_cases c3 : x3_1 < (l0.length : Int)
    ·rw [if_pos c3] at H
     have c3b0 : decide (x3_1 < (l0.length : Int)) = true := decide_eq_true c3
     clear c3
     by_cases c4 : 0 ≤ x3_1
     ·rw [if_pos c4] at H
      have c4b0 : decide (0 ≤ x3_1) = true := decide_eq_true c4
      clear c4
      by_cases c5 : (((rd_T60 l0 x3_1).f1).length : Int) > 20
      ·rw [if_pos c5] at H
       have c5b0 : decide (20 < (((rd_T60 l0 x3_1).f1).length : Int)) = true := decide_eq_true c5
       have c5b1 : decide (20 < ((rd_T60 l0 x3_1).f1).length) = true := decide_eq_true (by omega)
       clear c5
       obtain rfl := Option.some.inj H
       have p101 : 0 ≤ (x3_1 : Int) := of_decide_eq_true (by first | (with_reducible assumption) | assumption)
       have q101 : x3_1 < (l0.length : Int) := of_decide_eq_true (by first | (with_reducible assumption) | assumption)
       obtain ⟨ad101, A101_1, c101_1, e101, hx101_0, hx101_1, hl101_1, hi101_1⟩ := at_T60 HR0.out x3_1 p101 q101
       cases e101
       have HR101_1 := Aside0.mk hi101_1
       have HC101_1 := Aside0.mk hl101_1
       clear hi101_1 hl101_1
       replace p101 := eq_true p101
       replace q101 := eq_true q101
       go_wp2
       go_ret
       exact ⟨by first | rfl | (simp; done) | (simp [*]; done), by repeat (first | exact Drawn0.refl _ | apply Drawn0.step)⟩
      ·rw [if_neg c5] at H
       have c5b0 : decide (20 < (((rd_T60 l0 x3_1).f1).length : Int)) = false := decide_eq_false c5
       have c5b1 : decide (20 < ((rd_T60 l0 x3_1).f1).length) = false := decide_eq_false (by omega)
       clear c5
       have H' := Aside0.mk H
       clear H
       have p101 : 0 ≤ (x3_1 : Int) := of_decide_eq_true (by first | (with_reducible assumption) | assumption)
       have q101 : x3_1 < (l0.length : Int) := of_decide_eq_true (by first | (with_reducible assumption) | assumption)
       obtain ⟨ad101, A101_1, c101_1, e101, hx101_0, hx101_1, hl101_1, hi101_1⟩ := at_T60 HR0.out x3_1 p101 q101
       cases e101
       have HR101_1 := Aside0.mk hi101_1
       have HC101_1 := Aside0.mk hl101_1
       clear hi101_1 hl101_1
       replace p101 := eq_true p101
       replace q101 := eq_true q101
       go_wp2
       go_roundg k1
       case measure => have := HK1.out; omega
       case rel => exact ⟨(wrap64 (x3_1 + 1)), (by first | rfl | (simp; done) | (simp [*]; done)), H', ⟨by have := HK1.out; omega⟩, by repeat (first | exact Drawn0.refl _ | apply Drawn0.step)⟩
     ·rw [if_neg c4] at H
      exact absurd H (by simp)
    ·rw [if_neg c3] at H
     have c3b0 : decide (x3_1 < (l0.length : Int)) = false := decide_eq_false c3
     clear c3
     obtain rfl := Option.some.inj H
     go_wp2
     go_ret
     exact ⟨by first | rfl | (simp; done) | (simp [*]; done), by repeat (first | exact Drawn0.refl _ | apply Drawn0.step)⟩
end Go.Proofs.Ythkclagcbjnckaa.Pa


namespace Go.Proofs.Ythkclagcbjnckaa.Pa
open Go.RowKit Go.Proofs.YthkclagcbjnckaaW.PrintWords Go.Proofs.YthkclagcbjnckaaW.PrintLast Go.Proofs.YthkclagcbjnckaaW.PrintMore
attribute [local go_sem] max2_int min2_int max_two min_two max_three min_three max_four min_four
set_option linter.unusedVariables false
set_option linter.unusedSimpArgs false
def tenetlaw24_RingBuilds.f (k : Nat) (l0 : List (S60)) : Option (Bool) := (tenetlaw24_bigList.f k l0).bind fun t272 => (if t272 = true then ((tenetlaw24_awake.f).bind fun t273 => (some t273)) else ((ring_Build.f k l0).bind fun bt274 => ((tenetref24_Build.f k l0).bind fun bt281 => (if bt274.2.2.2 = bt281.2.2.2 then ((tenetref24_Eq.f k bt274.1 bt274.2.1 bt274.2.2.1 bt281.1 bt281.2.1 bt281.2.2.1).bind fun t288 => (if t288 = true then ((tenetlaw24_awake.f).bind fun t289 => (some t289)) else (some false))) else (some false)))))
set_option maxHeartbeats 8000000 in
set_option maxRecDepth 100000 in
theorem tenetlaw24_RingBuilds.calls (k : Nat) (A0 : Option Addr) (c0 : Nat) (l0 : List (S60)) (r : Bool) (w : World) (hr0 : Kd.C k60 w A0 l0.length l0) (hc0 : l0.length ≤ c0) (h : tenetlaw24_RingBuilds.f k l0 = some r) :
  Calls Try.prog 3 #[.slice A0 l0.length c0] w fun e w' => e = .returned (.bool r) ∧ Below w.heap.size w w' := by
 have hu27 := Try.underlying27
 have HR0 := Aside0.mk hr0
 have HC0 := Aside0.mk hc0
 clear hr0 hc0
 have HB := Aside0.mk (Below.refl w.heap.size w)
 have H : ((tenetlaw24_bigList.f k l0).bind fun t272 => (if t272 = true then ((tenetlaw24_awake.f).bind fun t273 => (some t273)) else ((ring_Build.f k l0).bind fun bt274 => ((tenetref24_Build.f k l0).bind fun bt281 => (if bt274.2.2.2 = bt281.2.2.2 then ((tenetref24_Eq.f k bt274.1 bt274.2.1 bt274.2.2.1 bt281.1 bt281.2.1 bt281.2.2.1).bind fun t288 => (if t288 = true then ((tenetlaw24_awake.f).bind fun t289 => (some t289)) else (some false))) else (some false)))))) = some r := h
 clear h
 replace H := Option.bind_eq_some_iff.mp H
 obtain ⟨t272, A20, H⟩ := H
 replace H : (if t272 = true then ((tenetlaw24_awake.f).bind fun t273 => (some t273)) else ((ring_Build.f k l0).bind fun bt274 => ((tenetref24_Build.f k l0).bind fun bt281 => (if bt274.2.2.2 = bt281.2.2.2 then ((tenetref24_Eq.f k bt274.1 bt274.2.1 bt274.2.2.1 bt281.1 bt281.2.1 bt281.2.2.1).bind fun t288 => (if t288 = true then ((tenetlaw24_awake.f).bind fun t289 => (some t289)) else (some false))) else (some false))))) = some r := H
 have A2 := Aside0.mk A20
 clear A20
 by_cases c3 : t272 = true
 ·subst c3
  have H1 : ((tenetlaw24_awake.f).bind fun t273 => (some t273)) = some r := by rw [if_pos rfl] at H; exact H
  clear H
  have H := H1
  clear H1
  replace H := Option.bind_eq_some_iff.mp H
  obtain ⟨t273, A40, H⟩ := H
  replace H : (some t273) = some r := H
  have A4 := Aside0.mk A40
  clear A40
  obtain rfl := Option.some.inj H
  go_enter Try.func3, Try.ntmps3
  go_wp2_with (first | ((with_reducible refine gate_callee (f := 12) rfl ?_); refine goesL_ (some 8) rfl rfl Try.func12 (by kernel_rfl) rfl #[.slice A0 l0.length c0] rfl (by (try simp only [List.map_toArray, List.map_cons, List.map_nil]); first | done | rfl | (simp only [List.length_drop, List.length_take]; rfl)) ?_; (with_reducible refine (tenetlaw24_bigList.calls k _ _ l0 true _ ?side1 ?side2 A2.out).mono ?_); (case side1 => repeat (first | exact HR0.out | (with_reducible refine Kd.C_alloc ?_ _) | (with_reducible refine Kd.C_drewN ?_ _) | (with_reducible refine Kd.C_drew ?_))); (case side2 => exact HC0.out); rintro e w' ⟨rfl, ⟨nd, rfl⟩⟩; refine ⟨_, rfl, ?_⟩) | ((with_reducible refine gate_callee (f := 13) rfl ?_); refine goesL_ (some 9) rfl rfl Try.func13 (by kernel_rfl) rfl #[] rfl (by (try simp only [List.map_toArray, List.map_cons, List.map_nil]); first | done | rfl | (simp only [List.length_drop, List.length_take]; rfl)) ?_; (with_reducible refine (tenetlaw24_awake.calls  t273 _ A4.out).mono ?_); rintro e w5 ⟨rfl, hb⟩; refine ⟨_, rfl, ?_⟩; have n0_ := Aside0.mk (below_step (by repeat (first | (with_reducible first | exact HB.out | apply below_alloc | apply pw_below_drewN | apply below_drew1) | exact HB.out)) hb); clear HB; have HB := n0_; clear n0_; (try clear hb); (try clear hb2); (try clear hk); (try clear hi)))
  go_ret
  exact ⟨by first | rfl | (simp [errW_none, errW_some] <;> rfl) | (simp [*, errW_none, errW_some] <;> rfl), by repeat (first | (with_reducible first | exact HB.out | apply below_alloc | apply pw_below_drewN | apply below_drew1) | exact HB.out)⟩
 ·replace c3 := Bool.eq_false_iff.mpr c3
  subst c3
  have H1 : ((ring_Build.f k l0).bind fun bt274 => ((tenetref24_Build.f k l0).bind fun bt281 => (if bt274.2.2.2 = bt281.2.2.2 then ((tenetref24_Eq.f k bt274.1 bt274.2.1 bt274.2.2.1 bt281.1 bt281.2.1 bt281.2.2.1).bind fun t288 => (if t288 = true then ((tenetlaw24_awake.f).bind fun t289 => (some t289)) else (some false))) else (some false)))) = some r := by rw [if_neg (show ¬ (false = true) by decide)] at H; exact H
  clear H
  have H := H1
  clear H1
  replace H := Option.bind_eq_some_iff.mp H
  obtain ⟨⟨t274, t275, t276, t279⟩, A60, H⟩ := H
  replace H : ((tenetref24_Build.f k l0).bind fun bt281 => (if t279 = bt281.2.2.2 then ((tenetref24_Eq.f k t274 t275 t276 bt281.1 bt281.2.1 bt281.2.2.1).bind fun t288 => (if t288 = true then ((tenetlaw24_awake.f).bind fun t289 => (some t289)) else (some false))) else (some false))) = some r := H
  have A6 := Aside0.mk A60
  clear A60
  replace H := Option.bind_eq_some_iff.mp H
  obtain ⟨⟨t281, t282, t283, t286⟩, A70, H⟩ := H
  replace H : (if t279 = t286 then ((tenetref24_Eq.f k t274 t275 t276 t281 t282 t283).bind fun t288 => (if t288 = true then ((tenetlaw24_awake.f).bind fun t289 => (some t289)) else (some false))) else (some false)) = some r := H
  have A7 := Aside0.mk A70
  clear A70
  by_cases c8 : t279 = t286
  ·rw [if_pos c8] at H
   have c8b0 : (t279 == t286) = true := beq_iff_eq.mpr c8
   have c8b1 : (t279 != t286) = false := bne_eq_false_iff_eq.mpr c8
   clear c8
   replace H := Option.bind_eq_some_iff.mp H
   obtain ⟨t288, A90, H⟩ := H
   replace H : (if t288 = true then ((tenetlaw24_awake.f).bind fun t289 => (some t289)) else (some false)) = some r := H
   have A9 := Aside0.mk A90
   clear A90
   by_cases c10 : t288 = true
   ·subst c10
    have H1 : ((tenetlaw24_awake.f).bind fun t289 => (some t289)) = some r := by rw [if_pos rfl] at H; exact H
    clear H
    have H := H1
    clear H1
    replace H := Option.bind_eq_some_iff.mp H
    obtain ⟨t289, A110, H⟩ := H
    replace H : (some t289) = some r := H
    have A11 := Aside0.mk A110
    clear A110
    obtain rfl := Option.some.inj H
    go_enter Try.func3, Try.ntmps3
    go_wp2_with (first | ((with_reducible refine gate_callee (f := 12) rfl ?_); refine goesL_ (some 8) rfl rfl Try.func12 (by kernel_rfl) rfl #[.slice A0 l0.length c0] rfl (by (try simp only [List.map_toArray, List.map_cons, List.map_nil]); first | done | rfl | (simp only [List.length_drop, List.length_take]; rfl)) ?_; (with_reducible refine (tenetlaw24_bigList.calls k _ _ l0 false _ ?side1 ?side2 A2.out).mono ?_); (case side1 => repeat (first | exact HR0.out | (with_reducible refine Kd.C_alloc ?_ _) | (with_reducible refine Kd.C_drewN ?_ _) | (with_reducible refine Kd.C_drew ?_))); (case side2 => exact HC0.out); rintro e w' ⟨rfl, ⟨nd, rfl⟩⟩; refine ⟨_, rfl, ?_⟩) | ((with_reducible refine gate_callee (f := 14) rfl ?_); refine goesL_ (some 12) rfl rfl Try.func14 (by kernel_rfl) rfl #[.slice A0 l0.length c0] rfl (by (try simp only [List.map_toArray, List.map_cons, List.map_nil]); first | done | rfl | (simp only [List.length_drop, List.length_take]; rfl)) ?_; (with_reducible refine (ring_Build.calls k _ _ l0 t274 t275 t276 t279 _ ?side1 ?side2 A6.out).mono ?_); (case side1 => repeat (first | exact HR0.out | (with_reducible refine Kd.C_alloc ?_ _) | (with_reducible refine Kd.C_drewN ?_ _) | (with_reducible refine Kd.C_drew ?_))); (case side2 => exact HC0.out); rintro e w12 ⟨v277, rfl, ho0, hb⟩; refine ⟨_, rfl, ?_⟩; have n0_ := Aside0.mk (Kd.N_lower (Kd.N_mono (ok' := fun k_ => True) ho0 (fun k_ hk_ => trivial)) (below_size (by repeat (first | (with_reducible first | exact HB.out | apply below_alloc | apply pw_below_drewN | apply below_drew1) | exact HB.out)))); have n1_ := Aside0.mk (below_step (by repeat (first | (with_reducible first | exact HB.out | apply below_alloc | apply pw_below_drewN | apply below_drew1) | exact HB.out)) hb); clear HB; have HO278 := n0_; have HB := n1_; clear n0_ n1_; (try clear hb); (try clear hb2); (try clear hk); (try clear hi); (try clear ho0)) | ((with_reducible refine gate_dst (N := 3) rfl ?_); refine box_event ?hg (N := 3) ?hd (cs := #[.int .i64 0, .int .i64 0, .slice none 0 0]) (t := 27) ?hr ?_; (case hd => rfl); (case hg => rfl); (case hr => first | (go_simp; done) | (go_simp; rfl)); intro gb280 hg w13 hbox hb; have n0_ := Aside0.mk (Kd.N_below (Kd.N_elderB (by (with_reducible repeat (first | apply Kd.N_alloc | apply Kd.N_drewN | apply Kd.N_drew)); exact HO278.out) gb280 (Nat.le_of_eq hg.symm)) hb); have n1_ := Aside0.mk (below_step (by repeat (first | (with_reducible first | exact HB.out | apply below_alloc | apply pw_below_drewN | apply below_drew1) | exact HB.out)) hb); have n2_ := Aside0.mk (hbox); have n3_ := Aside0.mk ((by rw [hg]; exact (below_size (by repeat (first | (with_reducible first | exact HB.out | apply below_alloc | apply pw_below_drewN | apply below_drew1) | exact HB.out))) : w.heap.size ≤ gb280)); have n4_ := Aside0.mk ((by rw [hg]; exact (below_size (by repeat (first | (with_reducible first | exact HB.out | apply below_alloc | apply pw_below_drewN | apply below_drew1) | exact HB.out))) : w.heap.size ≤ gb280)); clear HO278; clear HB; have HO278 := n0_; have HB := n1_; have BK280 := n2_; have GW280 := n3_; have GE280 := n4_; clear n0_ n1_ n2_ n3_ n4_; clear hb hbox hg; have hcz14_0 : w13.cell? ⟨gb280, 0, none⟩ = some (.int .i64 0) := (blk_cell BK280.out 0).trans rfl; have hcz14_1 : w13.cell? ⟨gb280, 1, none⟩ = some (.int .i64 0) := (blk_cell BK280.out 1).trans rfl; have hcz14_2 : w13.cell? ⟨gb280, 2, none⟩ = some (.slice none 0 0) := (blk_cell BK280.out 2).trans rfl; have hfz14_0 := blk_frozen BK280.out 0; have hfz14_1 := blk_frozen BK280.out 1; have hfz14_2 := blk_frozen BK280.out 2; obtain ⟨Ao15, co15, eo15⟩ := Kd.N_slice HO278.out; subst eo15) | ((with_reducible refine gate_callee (f := 15) rfl ?_); refine goesL_ (some 17) rfl rfl Try.func15 (by kernel_rfl) rfl #[.slice A0 l0.length c0] rfl (by (try simp only [List.map_toArray, List.map_cons, List.map_nil]); first | done | rfl | (simp only [List.length_drop, List.length_take]; rfl)) ?_; (with_reducible refine (tenetref24_Build.calls k _ _ l0 t281 t282 t283 t286 _ ?side1 ?side2 A7.out).mono ?_); (case side1 => exact Kd.C_below HR0.out (by repeat (first | (with_reducible first | exact HB.out | apply below_alloc | apply pw_below_drewN | apply below_drew1 | refine below_set ?_ GE280.out) | exact HB.out))); (case side2 => exact HC0.out); rintro e w16 ⟨v284, rfl, ho0, hb⟩; refine ⟨_, rfl, ?_⟩; have n0_ := Aside0.mk (Kd.N_below (by (with_reducible repeat (first | apply Kd.N_alloc | apply Kd.N_drewN | apply Kd.N_drew)); exact (Kd.N_mono (Kd.N_far (p := ⟨gb280, 2, none⟩) (Kd.N_far (p := ⟨gb280, 1, none⟩) (Kd.N_far (p := ⟨gb280, 0, none⟩) (Kd.N_mono HO278.out (fun k_ hk => (⟨hk, hk.2⟩ : _ ∧ k_ ≠ gb280))) (fun _ hk => hk.2) (.int .i64 t274)) (fun _ hk => hk.2) (.int .i64 t275)) (fun _ hk => hk.2) (.slice Ao15 t276.length co15)) (fun _ h_ => h_.1))) hb); have n1_ := Aside0.mk (Kd.V_lower (Kd.V_mono (ok' := fun k_ => some k_ ≠ (.slice Ao15 t276.length co15 : Value).ownBlock ∧ k_ ≠ gb280) ho0 (fun k_ hk_ => ⟨(Kd.fresh' (Kd.N_lt (by (with_reducible repeat (first | apply Kd.N_alloc | apply Kd.N_drewN | apply Kd.N_drew)); exact (Kd.N_mono (Kd.N_far (p := ⟨gb280, 2, none⟩) (Kd.N_far (p := ⟨gb280, 1, none⟩) (Kd.N_far (p := ⟨gb280, 0, none⟩) (Kd.N_mono HO278.out (fun k_ hk => (⟨hk, hk.2⟩ : _ ∧ k_ ≠ gb280))) (fun _ hk => hk.2) (.int .i64 t274)) (fun _ hk => hk.2) (.int .i64 t275)) (fun _ hk => hk.2) (.slice Ao15 t276.length co15)) (fun _ h_ => h_.1)))) k_ hk_), (Kd.freshB (g := gb280) (o := .cells #[.int .i64 t274, .int .i64 t275, .slice Ao15 t276.length co15] 27 (0, 0)) (by (with_reducible repeat (first | refine blk_drewN ?_ _ | refine blk_drew ?_ | refine blk_alloc ?_ _)); refine blk_put (cs := #[.int .i64 t274, .int .i64 t275, .slice none 0 0]) ?_ 2 _ rfl; (with_reducible repeat (first | refine blk_drewN ?_ _ | refine blk_drew ?_ | refine blk_alloc ?_ _)); refine blk_put (cs := #[.int .i64 t274, .int .i64 0, .slice none 0 0]) ?_ 1 _ rfl; (with_reducible repeat (first | refine blk_drewN ?_ _ | refine blk_drew ?_ | refine blk_alloc ?_ _)); refine blk_put (cs := #[.int .i64 0, .int .i64 0, .slice none 0 0]) ?_ 0 _ rfl; (with_reducible repeat (first | refine blk_drewN ?_ _ | refine blk_drew ?_ | refine blk_alloc ?_ _)); exact BK280.out) k_ hk_)⟩)) (below_size (by repeat (first | (with_reducible first | exact HB.out | apply below_alloc | apply pw_below_drewN | apply below_drew1 | refine below_set ?_ GE280.out) | exact HB.out)))); have n2_ := Aside0.mk (blk_below (g := gb280) (o := .cells #[.int .i64 t274, .int .i64 t275, .slice Ao15 t276.length co15] 27 (0, 0)) (by (with_reducible repeat (first | refine blk_drewN ?_ _ | refine blk_drew ?_ | refine blk_alloc ?_ _)); refine blk_put (cs := #[.int .i64 t274, .int .i64 t275, .slice none 0 0]) ?_ 2 _ rfl; (with_reducible repeat (first | refine blk_drewN ?_ _ | refine blk_drew ?_ | refine blk_alloc ?_ _)); refine blk_put (cs := #[.int .i64 t274, .int .i64 0, .slice none 0 0]) ?_ 1 _ rfl; (with_reducible repeat (first | refine blk_drewN ?_ _ | refine blk_drew ?_ | refine blk_alloc ?_ _)); refine blk_put (cs := #[.int .i64 0, .int .i64 0, .slice none 0 0]) ?_ 0 _ rfl; (with_reducible repeat (first | refine blk_drewN ?_ _ | refine blk_drew ?_ | refine blk_alloc ?_ _)); exact BK280.out) hb); have n3_ := Aside0.mk (below_step (by repeat (first | (with_reducible first | exact HB.out | apply below_alloc | apply pw_below_drewN | apply below_drew1 | refine below_set ?_ GE280.out) | exact HB.out)) hb); clear HO278; clear BK280; clear HB; have HO278 := n0_; have HO285 := n1_; have BK280 := n2_; have HB := n3_; clear n0_ n1_ n2_ n3_; (try clear hb); (try clear hb2); (try clear hk); (try clear hi); (try clear ho0)) | ((with_reducible refine gate_dst (N := 5) rfl ?_); refine box_event ?hg (N := 5) ?hd (cs := #[.int .i64 0, .int .i64 0, .slice none 0 0]) (t := 27) ?hr ?_; (case hd => rfl); (case hg => rfl); (case hr => first | (go_simp; done) | (go_simp; rfl)); intro gb287 hg w17 hbox hb; have n0_ := Aside0.mk (Kd.N_below (Kd.N_elderB (by (with_reducible repeat (first | apply Kd.N_alloc | apply Kd.N_drewN | apply Kd.N_drew)); exact HO278.out) gb287 (Nat.le_of_eq hg.symm)) hb); have n1_ := Aside0.mk (Kd.V_below (Kd.V_elderB (by (with_reducible repeat (first | apply Kd.V_alloc | apply Kd.V_drewN | apply Kd.V_drew)); exact HO285.out) gb287 (Nat.le_of_eq hg.symm)) hb); have n2_ := Aside0.mk (blk_below (g := gb280) (o := .cells #[.int .i64 t274, .int .i64 t275, .slice Ao15 t276.length co15] 27 (0, 0)) (by (with_reducible repeat (first | refine blk_drewN ?_ _ | refine blk_drew ?_ | refine blk_alloc ?_ _)); exact BK280.out) hb); have n3_ := Aside0.mk (below_step (by repeat (first | (with_reducible first | exact HB.out | apply below_alloc | apply pw_below_drewN | apply below_drew1 | refine below_set ?_ GE280.out) | exact HB.out)) hb); have n4_ := Aside0.mk (hbox); have n5_ := Aside0.mk ((by rw [hg]; exact (below_size (by repeat (first | (with_reducible first | exact HB.out | apply below_alloc | apply pw_below_drewN | apply below_drew1 | refine below_set ?_ GE280.out) | exact HB.out))) : w.heap.size ≤ gb287)); have n6_ := Aside0.mk ((by rw [hg]; exact (below_size (by repeat (first | (with_reducible first | exact HB.out | apply below_alloc | apply pw_below_drewN | apply below_drew1 | refine below_set ?_ GE280.out) | exact HB.out))) : w.heap.size ≤ gb287)); have n7_ := Aside0.mk ((by rw [hg]; exact Nat.ne_of_lt (blk_lt (g := gb280) (o := .cells #[.int .i64 t274, .int .i64 t275, .slice Ao15 t276.length co15] 27 (0, 0)) (by (with_reducible repeat (first | refine blk_drewN ?_ _ | refine blk_drew ?_ | refine blk_alloc ?_ _)); exact BK280.out)) : gb280 ≠ gb287)); have n8_ := Aside0.mk ((by rw [hg]; exact Nat.ne_of_gt (blk_lt (g := gb280) (o := .cells #[.int .i64 t274, .int .i64 t275, .slice Ao15 t276.length co15] 27 (0, 0)) (by (with_reducible repeat (first | refine blk_drewN ?_ _ | refine blk_drew ?_ | refine blk_alloc ?_ _)); exact BK280.out)) : gb287 ≠ gb280)); clear HO278; clear HO285; clear BK280; clear HB; have HO278 := n0_; have HO285 := n1_; have BK280 := n2_; have HB := n3_; have BK287 := n4_; have GW287 := n5_; have GE287 := n6_; have NB280_287 := n7_; have NB287_280 := n8_; clear n0_ n1_ n2_ n3_ n4_ n5_ n6_ n7_ n8_; clear hb hbox hg; have hnb18 := NB287_280.out; have hnc18 := NB280_287.out; have hcz19_0 : w17.cell? ⟨gb287, 0, none⟩ = some (.int .i64 0) := (blk_cell BK287.out 0).trans rfl; have hcz19_1 : w17.cell? ⟨gb287, 1, none⟩ = some (.int .i64 0) := (blk_cell BK287.out 1).trans rfl; have hcz19_2 : w17.cell? ⟨gb287, 2, none⟩ = some (.slice none 0 0) := (blk_cell BK287.out 2).trans rfl; have hfz19_0 := blk_frozen BK287.out 0; have hfz19_1 := blk_frozen BK287.out 1; have hfz19_2 := blk_frozen BK287.out 2; obtain ⟨Ao20, co20, eo20⟩ := Kd.V_slice HO285.out; subst eo20; have hcz21_0 : w17.cell? ⟨gb280, 0, none⟩ = some (.int .i64 t274) := (blk_cell BK280.out 0).trans rfl; have hcz21_1 : w17.cell? ⟨gb280, 1, none⟩ = some (.int .i64 t275) := (blk_cell BK280.out 1).trans rfl; have hcz21_2 : w17.cell? ⟨gb280, 2, none⟩ = some (.slice Ao15 t276.length co15) := (blk_cell BK280.out 2).trans rfl; have hfz21_0 := blk_frozen BK280.out 0; have hfz21_1 := blk_frozen BK280.out 1; have hfz21_2 := blk_frozen BK280.out 2) | (go_at_call 16; (with_reducible refine (tenetref24_Eq.calls k t274 t275 _ _ t276 t281 t282 _ _ t283 true _ ?side1 ?side2 ?side3 ?side4 A9.out).mono ?_); (case side1 => refine (Kd.N_reads' (e := 27) (base := w.heap.size) (ok := fun k_ => ((True ∧ k_ ≠ gb280) ∧ k_ ≠ gb287)) (n := t276.length) (c := co15) ?_).2.2; exact (by (with_reducible repeat (first | apply Kd.N_alloc | apply Kd.N_drewN | apply Kd.N_drew)); exact (Kd.N_mono (Kd.N_far (p := ⟨gb287, 2, none⟩) (Kd.N_far (p := ⟨gb287, 1, none⟩) (Kd.N_far (p := ⟨gb287, 0, none⟩) (Kd.N_mono HO278.out (fun k_ hk => (⟨hk, hk.2⟩ : _ ∧ k_ ≠ gb287))) (fun _ hk => hk.2) (.int .i64 t281)) (fun _ hk => hk.2) (.int .i64 t282)) (fun _ hk => hk.2) (.slice Ao20 t283.length co20)) (fun _ h_ => h_.1)))); (case side2 => exact (Kd.N_reads' HO278.out).2.1); (case side3 => refine (Kd.V_reads' (e := 27) (base := w.heap.size) (ok := fun k_ => ((some k_ ≠ (.slice Ao15 t276.length co15 : Value).ownBlock ∧ k_ ≠ gb280) ∧ k_ ≠ gb287)) (n := t283.length) (c := co20) ?_).2.2; exact (by (with_reducible repeat (first | apply Kd.V_alloc | apply Kd.V_drewN | apply Kd.V_drew)); exact (Kd.V_mono (Kd.V_far (p := ⟨gb287, 2, none⟩) (Kd.V_far (p := ⟨gb287, 1, none⟩) (Kd.V_far (p := ⟨gb287, 0, none⟩) (Kd.V_mono HO285.out (fun k_ hk => (⟨hk, hk.2⟩ : _ ∧ k_ ≠ gb287))) (fun _ hk => hk.2) (.int .i64 t281)) (fun _ hk => hk.2) (.int .i64 t282)) (fun _ hk => hk.2) (.slice Ao20 t283.length co20)) (fun _ h_ => h_.1)))); (case side4 => exact (Kd.V_reads' HO285.out).2.1); rintro e w22 ⟨rfl, hb⟩; have n0_ := Aside0.mk (Kd.N_below (by (with_reducible repeat (first | apply Kd.N_alloc | apply Kd.N_drewN | apply Kd.N_drew)); exact (Kd.N_mono (Kd.N_far (p := ⟨gb287, 2, none⟩) (Kd.N_far (p := ⟨gb287, 1, none⟩) (Kd.N_far (p := ⟨gb287, 0, none⟩) (Kd.N_mono HO278.out (fun k_ hk => (⟨hk, hk.2⟩ : _ ∧ k_ ≠ gb287))) (fun _ hk => hk.2) (.int .i64 t281)) (fun _ hk => hk.2) (.int .i64 t282)) (fun _ hk => hk.2) (.slice Ao20 t283.length co20)) (fun _ h_ => h_.1))) hb); have n1_ := Aside0.mk (Kd.V_below (by (with_reducible repeat (first | apply Kd.V_alloc | apply Kd.V_drewN | apply Kd.V_drew)); exact (Kd.V_mono (Kd.V_far (p := ⟨gb287, 2, none⟩) (Kd.V_far (p := ⟨gb287, 1, none⟩) (Kd.V_far (p := ⟨gb287, 0, none⟩) (Kd.V_mono HO285.out (fun k_ hk => (⟨hk, hk.2⟩ : _ ∧ k_ ≠ gb287))) (fun _ hk => hk.2) (.int .i64 t281)) (fun _ hk => hk.2) (.int .i64 t282)) (fun _ hk => hk.2) (.slice Ao20 t283.length co20)) (fun _ h_ => h_.1))) hb); have n2_ := Aside0.mk (blk_below (g := gb280) (o := .cells #[.int .i64 t274, .int .i64 t275, .slice Ao15 t276.length co15] 27 (0, 0)) (by (with_reducible repeat (first | refine blk_drewN ?_ _ | refine blk_drew ?_ | refine blk_alloc ?_ _)); refine blk_far ?_ NB280_287.out _; (with_reducible repeat (first | refine blk_drewN ?_ _ | refine blk_drew ?_ | refine blk_alloc ?_ _)); refine blk_far ?_ NB280_287.out _; (with_reducible repeat (first | refine blk_drewN ?_ _ | refine blk_drew ?_ | refine blk_alloc ?_ _)); refine blk_far ?_ NB280_287.out _; (with_reducible repeat (first | refine blk_drewN ?_ _ | refine blk_drew ?_ | refine blk_alloc ?_ _)); exact BK280.out) hb); have n3_ := Aside0.mk (blk_below (g := gb287) (o := .cells #[.int .i64 t281, .int .i64 t282, .slice Ao20 t283.length co20] 27 (0, 0)) (by (with_reducible repeat (first | refine blk_drewN ?_ _ | refine blk_drew ?_ | refine blk_alloc ?_ _)); refine blk_put (cs := #[.int .i64 t281, .int .i64 t282, .slice none 0 0]) ?_ 2 _ rfl; (with_reducible repeat (first | refine blk_drewN ?_ _ | refine blk_drew ?_ | refine blk_alloc ?_ _)); refine blk_put (cs := #[.int .i64 t281, .int .i64 0, .slice none 0 0]) ?_ 1 _ rfl; (with_reducible repeat (first | refine blk_drewN ?_ _ | refine blk_drew ?_ | refine blk_alloc ?_ _)); refine blk_put (cs := #[.int .i64 0, .int .i64 0, .slice none 0 0]) ?_ 0 _ rfl; (with_reducible repeat (first | refine blk_drewN ?_ _ | refine blk_drew ?_ | refine blk_alloc ?_ _)); exact BK287.out) hb); have n4_ := Aside0.mk (below_step (by repeat (first | (with_reducible first | exact HB.out | apply below_alloc | apply pw_below_drewN | apply below_drew1 | refine below_set ?_ GE280.out | refine below_set ?_ GE287.out) | exact HB.out)) hb); clear HO278; clear HO285; clear BK280; clear BK287; clear HB; have HO278 := n0_; have HO285 := n1_; have BK280 := n2_; have BK287 := n3_; have HB := n4_; clear n0_ n1_ n2_ n3_ n4_; (try clear hb); (try clear hb2); (try clear hk); (try clear hi)) | (go_at_call 13; (with_reducible refine (tenetlaw24_awake.calls  t289 _ A11.out).mono ?_); rintro e w23 ⟨rfl, hb⟩; have n0_ := Aside0.mk (Kd.N_below (by (with_reducible repeat (first | apply Kd.N_alloc | apply Kd.N_drewN | apply Kd.N_drew)); exact HO278.out) hb); have n1_ := Aside0.mk (Kd.V_below (by (with_reducible repeat (first | apply Kd.V_alloc | apply Kd.V_drewN | apply Kd.V_drew)); exact HO285.out) hb); have n2_ := Aside0.mk (blk_below (g := gb280) (o := .cells #[.int .i64 t274, .int .i64 t275, .slice Ao15 t276.length co15] 27 (0, 0)) (by (with_reducible repeat (first | refine blk_drewN ?_ _ | refine blk_drew ?_ | refine blk_alloc ?_ _)); exact BK280.out) hb); have n3_ := Aside0.mk (blk_below (g := gb287) (o := .cells #[.int .i64 t281, .int .i64 t282, .slice Ao20 t283.length co20] 27 (0, 0)) (by (with_reducible repeat (first | refine blk_drewN ?_ _ | refine blk_drew ?_ | refine blk_alloc ?_ _)); exact BK287.out) hb); have n4_ := Aside0.mk (below_step (by repeat (first | (with_reducible first | exact HB.out | apply below_alloc | apply pw_below_drewN | apply below_drew1 | refine below_set ?_ GE280.out | refine below_set ?_ GE287.out) | exact HB.out)) hb); clear HO278; clear HO285; clear BK280; clear BK287; clear HB; have HO278 := n0_; have HO285 := n1_; have BK280 := n2_; have BK287 := n3_; have HB := n4_; clear n0_ n1_ n2_ n3_ n4_; (try clear hb); (try clear hb2); (try clear hk); (try clear hi)))
    go_ret
    exact ⟨by first | rfl | (simp [errW_none, errW_some] <;> rfl) | (simp [*, errW_none, errW_some] <;> rfl), by repeat (first | (with_reducible first | exact HB.out | apply below_alloc | apply pw_below_drewN | apply below_drew1 | refine below_set ?_ GE280.out | refine below_set ?_ GE287.out) | exact HB.out)⟩
   ·replace c10 := Bool.eq_false_iff.mpr c10
    subst c10
    have H1 : (some false) = some r := by rw [if_neg (show ¬ (false = true) by decide)] at H; exact H
    clear H
    have H := H1
    clear H1
    obtain rfl := Option.some.inj H
    go_enter Try.func3, Try.ntmps3
    go_wp2_with (first | ((with_reducible refine gate_callee (f := 12) rfl ?_); refine goesL_ (some 8) rfl rfl Try.func12 (by kernel_rfl) rfl #[.slice A0 l0.length c0] rfl (by (try simp only [List.map_toArray, List.map_cons, List.map_nil]); first | done | rfl | (simp only [List.length_drop, List.length_take]; rfl)) ?_; (with_reducible refine (tenetlaw24_bigList.calls k _ _ l0 false _ ?side1 ?side2 A2.out).mono ?_); (case side1 => repeat (first | exact HR0.out | (with_reducible refine Kd.C_alloc ?_ _) | (with_reducible refine Kd.C_drewN ?_ _) | (with_reducible refine Kd.C_drew ?_))); (case side2 => exact HC0.out); rintro e w' ⟨rfl, ⟨nd, rfl⟩⟩; refine ⟨_, rfl, ?_⟩) | ((with_reducible refine gate_callee (f := 14) rfl ?_); refine goesL_ (some 12) rfl rfl Try.func14 (by kernel_rfl) rfl #[.slice A0 l0.length c0] rfl (by (try simp only [List.map_toArray, List.map_cons, List.map_nil]); first | done | rfl | (simp only [List.length_drop, List.length_take]; rfl)) ?_; (with_reducible refine (ring_Build.calls k _ _ l0 t274 t275 t276 t279 _ ?side1 ?side2 A6.out).mono ?_); (case side1 => repeat (first | exact HR0.out | (with_reducible refine Kd.C_alloc ?_ _) | (with_reducible refine Kd.C_drewN ?_ _) | (with_reducible refine Kd.C_drew ?_))); (case side2 => exact HC0.out); rintro e w24 ⟨v277, rfl, ho0, hb⟩; refine ⟨_, rfl, ?_⟩; have n0_ := Aside0.mk (Kd.N_lower (Kd.N_mono (ok' := fun k_ => True) ho0 (fun k_ hk_ => trivial)) (below_size (by repeat (first | (with_reducible first | exact HB.out | apply below_alloc | apply pw_below_drewN | apply below_drew1) | exact HB.out)))); have n1_ := Aside0.mk (below_step (by repeat (first | (with_reducible first | exact HB.out | apply below_alloc | apply pw_below_drewN | apply below_drew1) | exact HB.out)) hb); clear HB; have HO278 := n0_; have HB := n1_; clear n0_ n1_; (try clear hb); (try clear hb2); (try clear hk); (try clear hi); (try clear ho0)) | ((with_reducible refine gate_dst (N := 3) rfl ?_); refine box_event ?hg (N := 3) ?hd (cs := #[.int .i64 0, .int .i64 0, .slice none 0 0]) (t := 27) ?hr ?_; (case hd => rfl); (case hg => rfl); (case hr => first | (go_simp; done) | (go_simp; rfl)); intro gb280 hg w25 hbox hb; have n0_ := Aside0.mk (Kd.N_below (Kd.N_elderB (by (with_reducible repeat (first | apply Kd.N_alloc | apply Kd.N_drewN | apply Kd.N_drew)); exact HO278.out) gb280 (Nat.le_of_eq hg.symm)) hb); have n1_ := Aside0.mk (below_step (by repeat (first | (with_reducible first | exact HB.out | apply below_alloc | apply pw_below_drewN | apply below_drew1) | exact HB.out)) hb); have n2_ := Aside0.mk (hbox); have n3_ := Aside0.mk ((by rw [hg]; exact (below_size (by repeat (first | (with_reducible first | exact HB.out | apply below_alloc | apply pw_below_drewN | apply below_drew1) | exact HB.out))) : w.heap.size ≤ gb280)); have n4_ := Aside0.mk ((by rw [hg]; exact (below_size (by repeat (first | (with_reducible first | exact HB.out | apply below_alloc | apply pw_below_drewN | apply below_drew1) | exact HB.out))) : w.heap.size ≤ gb280)); clear HO278; clear HB; have HO278 := n0_; have HB := n1_; have BK280 := n2_; have GW280 := n3_; have GE280 := n4_; clear n0_ n1_ n2_ n3_ n4_; clear hb hbox hg; have hcz26_0 : w25.cell? ⟨gb280, 0, none⟩ = some (.int .i64 0) := (blk_cell BK280.out 0).trans rfl; have hcz26_1 : w25.cell? ⟨gb280, 1, none⟩ = some (.int .i64 0) := (blk_cell BK280.out 1).trans rfl; have hcz26_2 : w25.cell? ⟨gb280, 2, none⟩ = some (.slice none 0 0) := (blk_cell BK280.out 2).trans rfl; have hfz26_0 := blk_frozen BK280.out 0; have hfz26_1 := blk_frozen BK280.out 1; have hfz26_2 := blk_frozen BK280.out 2; obtain ⟨Ao27, co27, eo27⟩ := Kd.N_slice HO278.out; subst eo27) | ((with_reducible refine gate_callee (f := 15) rfl ?_); refine goesL_ (some 17) rfl rfl Try.func15 (by kernel_rfl) rfl #[.slice A0 l0.length c0] rfl (by (try simp only [List.map_toArray, List.map_cons, List.map_nil]); first | done | rfl | (simp only [List.length_drop, List.length_take]; rfl)) ?_; (with_reducible refine (tenetref24_Build.calls k _ _ l0 t281 t282 t283 t286 _ ?side1 ?side2 A7.out).mono ?_); (case side1 => exact Kd.C_below HR0.out (by repeat (first | (with_reducible first | exact HB.out | apply below_alloc | apply pw_below_drewN | apply below_drew1 | refine below_set ?_ GE280.out) | exact HB.out))); (case side2 => exact HC0.out); rintro e w28 ⟨v284, rfl, ho0, hb⟩; refine ⟨_, rfl, ?_⟩; have n0_ := Aside0.mk (Kd.N_below (by (with_reducible repeat (first | apply Kd.N_alloc | apply Kd.N_drewN | apply Kd.N_drew)); exact (Kd.N_mono (Kd.N_far (p := ⟨gb280, 2, none⟩) (Kd.N_far (p := ⟨gb280, 1, none⟩) (Kd.N_far (p := ⟨gb280, 0, none⟩) (Kd.N_mono HO278.out (fun k_ hk => (⟨hk, hk.2⟩ : _ ∧ k_ ≠ gb280))) (fun _ hk => hk.2) (.int .i64 t274)) (fun _ hk => hk.2) (.int .i64 t275)) (fun _ hk => hk.2) (.slice Ao27 t276.length co27)) (fun _ h_ => h_.1))) hb); have n1_ := Aside0.mk (Kd.V_lower (Kd.V_mono (ok' := fun k_ => some k_ ≠ (.slice Ao27 t276.length co27 : Value).ownBlock ∧ k_ ≠ gb280) ho0 (fun k_ hk_ => ⟨(Kd.fresh' (Kd.N_lt (by (with_reducible repeat (first | apply Kd.N_alloc | apply Kd.N_drewN | apply Kd.N_drew)); exact (Kd.N_mono (Kd.N_far (p := ⟨gb280, 2, none⟩) (Kd.N_far (p := ⟨gb280, 1, none⟩) (Kd.N_far (p := ⟨gb280, 0, none⟩) (Kd.N_mono HO278.out (fun k_ hk => (⟨hk, hk.2⟩ : _ ∧ k_ ≠ gb280))) (fun _ hk => hk.2) (.int .i64 t274)) (fun _ hk => hk.2) (.int .i64 t275)) (fun _ hk => hk.2) (.slice Ao27 t276.length co27)) (fun _ h_ => h_.1)))) k_ hk_), (Kd.freshB (g := gb280) (o := .cells #[.int .i64 t274, .int .i64 t275, .slice Ao27 t276.length co27] 27 (0, 0)) (by (with_reducible repeat (first | refine blk_drewN ?_ _ | refine blk_drew ?_ | refine blk_alloc ?_ _)); refine blk_put (cs := #[.int .i64 t274, .int .i64 t275, .slice none 0 0]) ?_ 2 _ rfl; (with_reducible repeat (first | refine blk_drewN ?_ _ | refine blk_drew ?_ | refine blk_alloc ?_ _)); refine blk_put (cs := #[.int .i64 t274, .int .i64 0, .slice none 0 0]) ?_ 1 _ rfl; (with_reducible repeat (first | refine blk_drewN ?_ _ | refine blk_drew ?_ | refine blk_alloc ?_ _)); refine blk_put (cs := #[.int .i64 0, .int .i64 0, .slice none 0 0]) ?_ 0 _ rfl; (with_reducible repeat (first | refine blk_drewN ?_ _ | refine blk_drew ?_ | refine blk_alloc ?_ _)); exact BK280.out) k_ hk_)⟩)) (below_size (by repeat (first | (with_reducible first | exact HB.out | apply below_alloc | apply pw_below_drewN | apply below_drew1 | refine below_set ?_ GE280.out) | exact HB.out)))); have n2_ := Aside0.mk (blk_below (g := gb280) (o := .cells #[.int .i64 t274, .int .i64 t275, .slice Ao27 t276.length co27] 27 (0, 0)) (by (with_reducible repeat (first | refine blk_drewN ?_ _ | refine blk_drew ?_ | refine blk_alloc ?_ _)); refine blk_put (cs := #[.int .i64 t274, .int .i64 t275, .slice none 0 0]) ?_ 2 _ rfl; (with_reducible repeat (first | refine blk_drewN ?_ _ | refine blk_drew ?_ | refine blk_alloc ?_ _)); refine blk_put (cs := #[.int .i64 t274, .int .i64 0, .slice none 0 0]) ?_ 1 _ rfl; (with_reducible repeat (first | refine blk_drewN ?_ _ | refine blk_drew ?_ | refine blk_alloc ?_ _)); refine blk_put (cs := #[.int .i64 0, .int .i64 0, .slice none 0 0]) ?_ 0 _ rfl; (with_reducible repeat (first | refine blk_drewN ?_ _ | refine blk_drew ?_ | refine blk_alloc ?_ _)); exact BK280.out) hb); have n3_ := Aside0.mk (below_step (by repeat (first | (with_reducible first | exact HB.out | apply below_alloc | apply pw_below_drewN | apply below_drew1 | refine below_set ?_ GE280.out) | exact HB.out)) hb); clear HO278; clear BK280; clear HB; have HO278 := n0_; have HO285 := n1_; have BK280 := n2_; have HB := n3_; clear n0_ n1_ n2_ n3_; (try clear hb); (try clear hb2); (try clear hk); (try clear hi); (try clear ho0)) | ((with_reducible refine gate_dst (N := 5) rfl ?_); refine box_event ?hg (N := 5) ?hd (cs := #[.int .i64 0, .int .i64 0, .slice none 0 0]) (t := 27) ?hr ?_; (case hd => rfl); (case hg => rfl); (case hr => first | (go_simp; done) | (go_simp; rfl)); intro gb287 hg w29 hbox hb; have n0_ := Aside0.mk (Kd.N_below (Kd.N_elderB (by (with_reducible repeat (first | apply Kd.N_alloc | apply Kd.N_drewN | apply Kd.N_drew)); exact HO278.out) gb287 (Nat.le_of_eq hg.symm)) hb); have n1_ := Aside0.mk (Kd.V_below (Kd.V_elderB (by (with_reducible repeat (first | apply Kd.V_alloc | apply Kd.V_drewN | apply Kd.V_drew)); exact HO285.out) gb287 (Nat.le_of_eq hg.symm)) hb); have n2_ := Aside0.mk (blk_below (g := gb280) (o := .cells #[.int .i64 t274, .int .i64 t275, .slice Ao27 t276.length co27] 27 (0, 0)) (by (with_reducible repeat (first | refine blk_drewN ?_ _ | refine blk_drew ?_ | refine blk_alloc ?_ _)); exact BK280.out) hb); have n3_ := Aside0.mk (below_step (by repeat (first | (with_reducible first | exact HB.out | apply below_alloc | apply pw_below_drewN | apply below_drew1 | refine below_set ?_ GE280.out) | exact HB.out)) hb); have n4_ := Aside0.mk (hbox); have n5_ := Aside0.mk ((by rw [hg]; exact (below_size (by repeat (first | (with_reducible first | exact HB.out | apply below_alloc | apply pw_below_drewN | apply below_drew1 | refine below_set ?_ GE280.out) | exact HB.out))) : w.heap.size ≤ gb287)); have n6_ := Aside0.mk ((by rw [hg]; exact (below_size (by repeat (first | (with_reducible first | exact HB.out | apply below_alloc | apply pw_below_drewN | apply below_drew1 | refine below_set ?_ GE280.out) | exact HB.out))) : w.heap.size ≤ gb287)); have n7_ := Aside0.mk ((by rw [hg]; exact Nat.ne_of_lt (blk_lt (g := gb280) (o := .cells #[.int .i64 t274, .int .i64 t275, .slice Ao27 t276.length co27] 27 (0, 0)) (by (with_reducible repeat (first | refine blk_drewN ?_ _ | refine blk_drew ?_ | refine blk_alloc ?_ _)); exact BK280.out)) : gb280 ≠ gb287)); have n8_ := Aside0.mk ((by rw [hg]; exact Nat.ne_of_gt (blk_lt (g := gb280) (o := .cells #[.int .i64 t274, .int .i64 t275, .slice Ao27 t276.length co27] 27 (0, 0)) (by (with_reducible repeat (first | refine blk_drewN ?_ _ | refine blk_drew ?_ | refine blk_alloc ?_ _)); exact BK280.out)) : gb287 ≠ gb280)); clear HO278; clear HO285; clear BK280; clear HB; have HO278 := n0_; have HO285 := n1_; have BK280 := n2_; have HB := n3_; have BK287 := n4_; have GW287 := n5_; have GE287 := n6_; have NB280_287 := n7_; have NB287_280 := n8_; clear n0_ n1_ n2_ n3_ n4_ n5_ n6_ n7_ n8_; clear hb hbox hg; have hnb30 := NB287_280.out; have hnc30 := NB280_287.out; have hcz31_0 : w29.cell? ⟨gb287, 0, none⟩ = some (.int .i64 0) := (blk_cell BK287.out 0).trans rfl; have hcz31_1 : w29.cell? ⟨gb287, 1, none⟩ = some (.int .i64 0) := (blk_cell BK287.out 1).trans rfl; have hcz31_2 : w29.cell? ⟨gb287, 2, none⟩ = some (.slice none 0 0) := (blk_cell BK287.out 2).trans rfl; have hfz31_0 := blk_frozen BK287.out 0; have hfz31_1 := blk_frozen BK287.out 1; have hfz31_2 := blk_frozen BK287.out 2; obtain ⟨Ao32, co32, eo32⟩ := Kd.V_slice HO285.out; subst eo32; have hcz33_0 : w29.cell? ⟨gb280, 0, none⟩ = some (.int .i64 t274) := (blk_cell BK280.out 0).trans rfl; have hcz33_1 : w29.cell? ⟨gb280, 1, none⟩ = some (.int .i64 t275) := (blk_cell BK280.out 1).trans rfl; have hcz33_2 : w29.cell? ⟨gb280, 2, none⟩ = some (.slice Ao27 t276.length co27) := (blk_cell BK280.out 2).trans rfl; have hfz33_0 := blk_frozen BK280.out 0; have hfz33_1 := blk_frozen BK280.out 1; have hfz33_2 := blk_frozen BK280.out 2) | (go_at_call 16; (with_reducible refine (tenetref24_Eq.calls k t274 t275 _ _ t276 t281 t282 _ _ t283 false _ ?side1 ?side2 ?side3 ?side4 A9.out).mono ?_); (case side1 => refine (Kd.N_reads' (e := 27) (base := w.heap.size) (ok := fun k_ => ((True ∧ k_ ≠ gb280) ∧ k_ ≠ gb287)) (n := t276.length) (c := co27) ?_).2.2; exact (by (with_reducible repeat (first | apply Kd.N_alloc | apply Kd.N_drewN | apply Kd.N_drew)); exact (Kd.N_mono (Kd.N_far (p := ⟨gb287, 2, none⟩) (Kd.N_far (p := ⟨gb287, 1, none⟩) (Kd.N_far (p := ⟨gb287, 0, none⟩) (Kd.N_mono HO278.out (fun k_ hk => (⟨hk, hk.2⟩ : _ ∧ k_ ≠ gb287))) (fun _ hk => hk.2) (.int .i64 t281)) (fun _ hk => hk.2) (.int .i64 t282)) (fun _ hk => hk.2) (.slice Ao32 t283.length co32)) (fun _ h_ => h_.1)))); (case side2 => exact (Kd.N_reads' HO278.out).2.1); (case side3 => refine (Kd.V_reads' (e := 27) (base := w.heap.size) (ok := fun k_ => ((some k_ ≠ (.slice Ao27 t276.length co27 : Value).ownBlock ∧ k_ ≠ gb280) ∧ k_ ≠ gb287)) (n := t283.length) (c := co32) ?_).2.2; exact (by (with_reducible repeat (first | apply Kd.V_alloc | apply Kd.V_drewN | apply Kd.V_drew)); exact (Kd.V_mono (Kd.V_far (p := ⟨gb287, 2, none⟩) (Kd.V_far (p := ⟨gb287, 1, none⟩) (Kd.V_far (p := ⟨gb287, 0, none⟩) (Kd.V_mono HO285.out (fun k_ hk => (⟨hk, hk.2⟩ : _ ∧ k_ ≠ gb287))) (fun _ hk => hk.2) (.int .i64 t281)) (fun _ hk => hk.2) (.int .i64 t282)) (fun _ hk => hk.2) (.slice Ao32 t283.length co32)) (fun _ h_ => h_.1)))); (case side4 => exact (Kd.V_reads' HO285.out).2.1); rintro e w34 ⟨rfl, hb⟩; have n0_ := Aside0.mk (Kd.N_below (by (with_reducible repeat (first | apply Kd.N_alloc | apply Kd.N_drewN | apply Kd.N_drew)); exact (Kd.N_mono (Kd.N_far (p := ⟨gb287, 2, none⟩) (Kd.N_far (p := ⟨gb287, 1, none⟩) (Kd.N_far (p := ⟨gb287, 0, none⟩) (Kd.N_mono HO278.out (fun k_ hk => (⟨hk, hk.2⟩ : _ ∧ k_ ≠ gb287))) (fun _ hk => hk.2) (.int .i64 t281)) (fun _ hk => hk.2) (.int .i64 t282)) (fun _ hk => hk.2) (.slice Ao32 t283.length co32)) (fun _ h_ => h_.1))) hb); have n1_ := Aside0.mk (Kd.V_below (by (with_reducible repeat (first | apply Kd.V_alloc | apply Kd.V_drewN | apply Kd.V_drew)); exact (Kd.V_mono (Kd.V_far (p := ⟨gb287, 2, none⟩) (Kd.V_far (p := ⟨gb287, 1, none⟩) (Kd.V_far (p := ⟨gb287, 0, none⟩) (Kd.V_mono HO285.out (fun k_ hk => (⟨hk, hk.2⟩ : _ ∧ k_ ≠ gb287))) (fun _ hk => hk.2) (.int .i64 t281)) (fun _ hk => hk.2) (.int .i64 t282)) (fun _ hk => hk.2) (.slice Ao32 t283.length co32)) (fun _ h_ => h_.1))) hb); have n2_ := Aside0.mk (blk_below (g := gb280) (o := .cells #[.int .i64 t274, .int .i64 t275, .slice Ao27 t276.length co27] 27 (0, 0)) (by (with_reducible repeat (first | refine blk_drewN ?_ _ | refine blk_drew ?_ | refine blk_alloc ?_ _)); refine blk_far ?_ NB280_287.out _; (with_reducible repeat (first | refine blk_drewN ?_ _ | refine blk_drew ?_ | refine blk_alloc ?_ _)); refine blk_far ?_ NB280_287.out _; (with_reducible repeat (first | refine blk_drewN ?_ _ | refine blk_drew ?_ | refine blk_alloc ?_ _)); refine blk_far ?_ NB280_287.out _; (with_reducible repeat (first | refine blk_drewN ?_ _ | refine blk_drew ?_ | refine blk_alloc ?_ _)); exact BK280.out) hb); have n3_ := Aside0.mk (blk_below (g := gb287) (o := .cells #[.int .i64 t281, .int .i64 t282, .slice Ao32 t283.length co32] 27 (0, 0)) (by (with_reducible repeat (first | refine blk_drewN ?_ _ | refine blk_drew ?_ | refine blk_alloc ?_ _)); refine blk_put (cs := #[.int .i64 t281, .int .i64 t282, .slice none 0 0]) ?_ 2 _ rfl; (with_reducible repeat (first | refine blk_drewN ?_ _ | refine blk_drew ?_ | refine blk_alloc ?_ _)); refine blk_put (cs := #[.int .i64 t281, .int .i64 0, .slice none 0 0]) ?_ 1 _ rfl; (with_reducible repeat (first | refine blk_drewN ?_ _ | refine blk_drew ?_ | refine blk_alloc ?_ _)); refine blk_put (cs := #[.int .i64 0, .int .i64 0, .slice none 0 0]) ?_ 0 _ rfl; (with_reducible repeat (first | refine blk_drewN ?_ _ | refine blk_drew ?_ | refine blk_alloc ?_ _)); exact BK287.out) hb); have n4_ := Aside0.mk (below_step (by repeat (first | (with_reducible first | exact HB.out | apply below_alloc | apply pw_below_drewN | apply below_drew1 | refine below_set ?_ GE280.out | refine below_set ?_ GE287.out) | exact HB.out)) hb); clear HO278; clear HO285; clear BK280; clear BK287; clear HB; have HO278 := n0_; have HO285 := n1_; have BK280 := n2_; have BK287 := n3_; have HB := n4_; clear n0_ n1_ n2_ n3_ n4_; (try clear hb); (try clear hb2); (try clear hk); (try clear hi)))
    go_ret
    exact ⟨by first | rfl | (simp [errW_none, errW_some] <;> rfl) | (simp [*, errW_none, errW_some] <;> rfl), by repeat (first | (with_reducible first | exact HB.out | apply below_alloc | apply pw_below_drewN | apply below_drew1 | refine below_set ?_ GE280.out | refine below_set ?_ GE287.out) | exact HB.out)⟩
  ·rw [if_neg c8] at H
   have c8b0 : (t279 == t286) = false := beq_eq_false_iff_ne.mpr c8
   have c8b1 : (t279 != t286) = true := bne_iff_ne.mpr c8
   obtain rfl := Option.some.inj H
   go_enter Try.func3, Try.ntmps3
   go_wp2_with (first | ((with_reducible refine gate_callee (f := 12) rfl ?_); refine goesL_ (some 8) rfl rfl Try.func12 (by kernel_rfl) rfl #[.slice A0 l0.length c0] rfl (by (try simp only [List.map_toArray, List.map_cons, List.map_nil]); first | done | rfl | (simp only [List.length_drop, List.length_take]; rfl)) ?_; (with_reducible refine (tenetlaw24_bigList.calls k _ _ l0 false _ ?side1 ?side2 A2.out).mono ?_); (case side1 => repeat (first | exact HR0.out | (with_reducible refine Kd.C_alloc ?_ _) | (with_reducible refine Kd.C_drewN ?_ _) | (with_reducible refine Kd.C_drew ?_))); (case side2 => exact HC0.out); rintro e w' ⟨rfl, ⟨nd, rfl⟩⟩; refine ⟨_, rfl, ?_⟩) | ((with_reducible refine gate_callee (f := 14) rfl ?_); refine goesL_ (some 12) rfl rfl Try.func14 (by kernel_rfl) rfl #[.slice A0 l0.length c0] rfl (by (try simp only [List.map_toArray, List.map_cons, List.map_nil]); first | done | rfl | (simp only [List.length_drop, List.length_take]; rfl)) ?_; (with_reducible refine (ring_Build.calls k _ _ l0 t274 t275 t276 t279 _ ?side1 ?side2 A6.out).mono ?_); (case side1 => repeat (first | exact HR0.out | (with_reducible refine Kd.C_alloc ?_ _) | (with_reducible refine Kd.C_drewN ?_ _) | (with_reducible refine Kd.C_drew ?_))); (case side2 => exact HC0.out); rintro e w35 ⟨v277, rfl, ho0, hb⟩; refine ⟨_, rfl, ?_⟩; have n0_ := Aside0.mk (Kd.N_lower (Kd.N_mono (ok' := fun k_ => True) ho0 (fun k_ hk_ => trivial)) (below_size (by repeat (first | (with_reducible first | exact HB.out | apply below_alloc | apply pw_below_drewN | apply below_drew1) | exact HB.out)))); have n1_ := Aside0.mk (below_step (by repeat (first | (with_reducible first | exact HB.out | apply below_alloc | apply pw_below_drewN | apply below_drew1) | exact HB.out)) hb); clear HB; have HO278 := n0_; have HB := n1_; clear n0_ n1_; (try clear hb); (try clear hb2); (try clear hk); (try clear hi); (try clear ho0)) | ((with_reducible refine gate_dst (N := 3) rfl ?_); refine box_event ?hg (N := 3) ?hd (cs := #[.int .i64 0, .int .i64 0, .slice none 0 0]) (t := 27) ?hr ?_; (case hd => rfl); (case hg => rfl); (case hr => first | (go_simp; done) | (go_simp; rfl)); intro gb280 hg w36 hbox hb; have n0_ := Aside0.mk (Kd.N_below (Kd.N_elderB (by (with_reducible repeat (first | apply Kd.N_alloc | apply Kd.N_drewN | apply Kd.N_drew)); exact HO278.out) gb280 (Nat.le_of_eq hg.symm)) hb); have n1_ := Aside0.mk (below_step (by repeat (first | (with_reducible first | exact HB.out | apply below_alloc | apply pw_below_drewN | apply below_drew1) | exact HB.out)) hb); have n2_ := Aside0.mk (hbox); have n3_ := Aside0.mk ((by rw [hg]; exact (below_size (by repeat (first | (with_reducible first | exact HB.out | apply below_alloc | apply pw_below_drewN | apply below_drew1) | exact HB.out))) : w.heap.size ≤ gb280)); have n4_ := Aside0.mk ((by rw [hg]; exact (below_size (by repeat (first | (with_reducible first | exact HB.out | apply below_alloc | apply pw_below_drewN | apply below_drew1) | exact HB.out))) : w.heap.size ≤ gb280)); clear HO278; clear HB; have HO278 := n0_; have HB := n1_; have BK280 := n2_; have GW280 := n3_; have GE280 := n4_; clear n0_ n1_ n2_ n3_ n4_; clear hb hbox hg; have hcz37_0 : w36.cell? ⟨gb280, 0, none⟩ = some (.int .i64 0) := (blk_cell BK280.out 0).trans rfl; have hcz37_1 : w36.cell? ⟨gb280, 1, none⟩ = some (.int .i64 0) := (blk_cell BK280.out 1).trans rfl; have hcz37_2 : w36.cell? ⟨gb280, 2, none⟩ = some (.slice none 0 0) := (blk_cell BK280.out 2).trans rfl; have hfz37_0 := blk_frozen BK280.out 0; have hfz37_1 := blk_frozen BK280.out 1; have hfz37_2 := blk_frozen BK280.out 2; obtain ⟨Ao38, co38, eo38⟩ := Kd.N_slice HO278.out; subst eo38) | ((with_reducible refine gate_callee (f := 15) rfl ?_); refine goesL_ (some 17) rfl rfl Try.func15 (by kernel_rfl) rfl #[.slice A0 l0.length c0] rfl (by (try simp only [List.map_toArray, List.map_cons, List.map_nil]); first | done | rfl | (simp only [List.length_drop, List.length_take]; rfl)) ?_; (with_reducible refine (tenetref24_Build.calls k _ _ l0 t281 t282 t283 t286 _ ?side1 ?side2 A7.out).mono ?_); (case side1 => exact Kd.C_below HR0.out (by repeat (first | (with_reducible first | exact HB.out | apply below_alloc | apply pw_below_drewN | apply below_drew1 | refine below_set ?_ GE280.out) | exact HB.out))); (case side2 => exact HC0.out); rintro e w39 ⟨v284, rfl, ho0, hb⟩; refine ⟨_, rfl, ?_⟩; have n0_ := Aside0.mk (Kd.N_below (by (with_reducible repeat (first | apply Kd.N_alloc | apply Kd.N_drewN | apply Kd.N_drew)); exact (Kd.N_mono (Kd.N_far (p := ⟨gb280, 2, none⟩) (Kd.N_far (p := ⟨gb280, 1, none⟩) (Kd.N_far (p := ⟨gb280, 0, none⟩) (Kd.N_mono HO278.out (fun k_ hk => (⟨hk, hk.2⟩ : _ ∧ k_ ≠ gb280))) (fun _ hk => hk.2) (.int .i64 t274)) (fun _ hk => hk.2) (.int .i64 t275)) (fun _ hk => hk.2) (.slice Ao38 t276.length co38)) (fun _ h_ => h_.1))) hb); have n1_ := Aside0.mk (Kd.V_lower (Kd.V_mono (ok' := fun k_ => some k_ ≠ (.slice Ao38 t276.length co38 : Value).ownBlock ∧ k_ ≠ gb280) ho0 (fun k_ hk_ => ⟨(Kd.fresh' (Kd.N_lt (by (with_reducible repeat (first | apply Kd.N_alloc | apply Kd.N_drewN | apply Kd.N_drew)); exact (Kd.N_mono (Kd.N_far (p := ⟨gb280, 2, none⟩) (Kd.N_far (p := ⟨gb280, 1, none⟩) (Kd.N_far (p := ⟨gb280, 0, none⟩) (Kd.N_mono HO278.out (fun k_ hk => (⟨hk, hk.2⟩ : _ ∧ k_ ≠ gb280))) (fun _ hk => hk.2) (.int .i64 t274)) (fun _ hk => hk.2) (.int .i64 t275)) (fun _ hk => hk.2) (.slice Ao38 t276.length co38)) (fun _ h_ => h_.1)))) k_ hk_), (Kd.freshB (g := gb280) (o := .cells #[.int .i64 t274, .int .i64 t275, .slice Ao38 t276.length co38] 27 (0, 0)) (by (with_reducible repeat (first | refine blk_drewN ?_ _ | refine blk_drew ?_ | refine blk_alloc ?_ _)); refine blk_put (cs := #[.int .i64 t274, .int .i64 t275, .slice none 0 0]) ?_ 2 _ rfl; (with_reducible repeat (first | refine blk_drewN ?_ _ | refine blk_drew ?_ | refine blk_alloc ?_ _)); refine blk_put (cs := #[.int .i64 t274, .int .i64 0, .slice none 0 0]) ?_ 1 _ rfl; (with_reducible repeat (first | refine blk_drewN ?_ _ | refine blk_drew ?_ | refine blk_alloc ?_ _)); refine blk_put (cs := #[.int .i64 0, .int .i64 0, .slice none 0 0]) ?_ 0 _ rfl; (with_reducible repeat (first | refine blk_drewN ?_ _ | refine blk_drew ?_ | refine blk_alloc ?_ _)); exact BK280.out) k_ hk_)⟩)) (below_size (by repeat (first | (with_reducible first | exact HB.out | apply below_alloc | apply pw_below_drewN | apply below_drew1 | refine below_set ?_ GE280.out) | exact HB.out)))); have n2_ := Aside0.mk (blk_below (g := gb280) (o := .cells #[.int .i64 t274, .int .i64 t275, .slice Ao38 t276.length co38] 27 (0, 0)) (by (with_reducible repeat (first | refine blk_drewN ?_ _ | refine blk_drew ?_ | refine blk_alloc ?_ _)); refine blk_put (cs := #[.int .i64 t274, .int .i64 t275, .slice none 0 0]) ?_ 2 _ rfl; (with_reducible repeat (first | refine blk_drewN ?_ _ | refine blk_drew ?_ | refine blk_alloc ?_ _)); refine blk_put (cs := #[.int .i64 t274, .int .i64 0, .slice none 0 0]) ?_ 1 _ rfl; (with_reducible repeat (first | refine blk_drewN ?_ _ | refine blk_drew ?_ | refine blk_alloc ?_ _)); refine blk_put (cs := #[.int .i64 0, .int .i64 0, .slice none 0 0]) ?_ 0 _ rfl; (with_reducible repeat (first | refine blk_drewN ?_ _ | refine blk_drew ?_ | refine blk_alloc ?_ _)); exact BK280.out) hb); have n3_ := Aside0.mk (below_step (by repeat (first | (with_reducible first | exact HB.out | apply below_alloc | apply pw_below_drewN | apply below_drew1 | refine below_set ?_ GE280.out) | exact HB.out)) hb); clear HO278; clear BK280; clear HB; have HO278 := n0_; have HO285 := n1_; have BK280 := n2_; have HB := n3_; clear n0_ n1_ n2_ n3_; (try clear hb); (try clear hb2); (try clear hk); (try clear hi); (try clear ho0)) | ((with_reducible refine gate_dst (N := 5) rfl ?_); refine box_event ?hg (N := 5) ?hd (cs := #[.int .i64 0, .int .i64 0, .slice none 0 0]) (t := 27) ?hr ?_; (case hd => rfl); (case hg => rfl); (case hr => first | (go_simp; done) | (go_simp; rfl)); intro gb287 hg w40 hbox hb; have n0_ := Aside0.mk (Kd.N_below (Kd.N_elderB (by (with_reducible repeat (first | apply Kd.N_alloc | apply Kd.N_drewN | apply Kd.N_drew)); exact HO278.out) gb287 (Nat.le_of_eq hg.symm)) hb); have n1_ := Aside0.mk (Kd.V_below (Kd.V_elderB (by (with_reducible repeat (first | apply Kd.V_alloc | apply Kd.V_drewN | apply Kd.V_drew)); exact HO285.out) gb287 (Nat.le_of_eq hg.symm)) hb); have n2_ := Aside0.mk (blk_below (g := gb280) (o := .cells #[.int .i64 t274, .int .i64 t275, .slice Ao38 t276.length co38] 27 (0, 0)) (by (with_reducible repeat (first | refine blk_drewN ?_ _ | refine blk_drew ?_ | refine blk_alloc ?_ _)); exact BK280.out) hb); have n3_ := Aside0.mk (below_step (by repeat (first | (with_reducible first | exact HB.out | apply below_alloc | apply pw_below_drewN | apply below_drew1 | refine below_set ?_ GE280.out) | exact HB.out)) hb); have n4_ := Aside0.mk (hbox); have n5_ := Aside0.mk ((by rw [hg]; exact (below_size (by repeat (first | (with_reducible first | exact HB.out | apply below_alloc | apply pw_below_drewN | apply below_drew1 | refine below_set ?_ GE280.out) | exact HB.out))) : w.heap.size ≤ gb287)); have n6_ := Aside0.mk ((by rw [hg]; exact (below_size (by repeat (first | (with_reducible first | exact HB.out | apply below_alloc | apply pw_below_drewN | apply below_drew1 | refine below_set ?_ GE280.out) | exact HB.out))) : w.heap.size ≤ gb287)); have n7_ := Aside0.mk ((by rw [hg]; exact Nat.ne_of_lt (blk_lt (g := gb280) (o := .cells #[.int .i64 t274, .int .i64 t275, .slice Ao38 t276.length co38] 27 (0, 0)) (by (with_reducible repeat (first | refine blk_drewN ?_ _ | refine blk_drew ?_ | refine blk_alloc ?_ _)); exact BK280.out)) : gb280 ≠ gb287)); have n8_ := Aside0.mk ((by rw [hg]; exact Nat.ne_of_gt (blk_lt (g := gb280) (o := .cells #[.int .i64 t274, .int .i64 t275, .slice Ao38 t276.length co38] 27 (0, 0)) (by (with_reducible repeat (first | refine blk_drewN ?_ _ | refine blk_drew ?_ | refine blk_alloc ?_ _)); exact BK280.out)) : gb287 ≠ gb280)); clear HO278; clear HO285; clear BK280; clear HB; have HO278 := n0_; have HO285 := n1_; have BK280 := n2_; have HB := n3_; have BK287 := n4_; have GW287 := n5_; have GE287 := n6_; have NB280_287 := n7_; have NB287_280 := n8_; clear n0_ n1_ n2_ n3_ n4_ n5_ n6_ n7_ n8_; clear hb hbox hg; have hnb41 := NB287_280.out; have hnc41 := NB280_287.out; have hcz42_0 : w40.cell? ⟨gb287, 0, none⟩ = some (.int .i64 0) := (blk_cell BK287.out 0).trans rfl; have hcz42_1 : w40.cell? ⟨gb287, 1, none⟩ = some (.int .i64 0) := (blk_cell BK287.out 1).trans rfl; have hcz42_2 : w40.cell? ⟨gb287, 2, none⟩ = some (.slice none 0 0) := (blk_cell BK287.out 2).trans rfl; have hfz42_0 := blk_frozen BK287.out 0; have hfz42_1 := blk_frozen BK287.out 1; have hfz42_2 := blk_frozen BK287.out 2; obtain ⟨Ao43, co43, eo43⟩ := Kd.V_slice HO285.out; subst eo43))
   go_ret
   exact ⟨by first | rfl | (simp [errW_none, errW_some] <;> rfl) | (simp [*, errW_none, errW_some] <;> rfl), by repeat (first | (with_reducible first | exact HB.out | apply below_alloc | apply pw_below_drewN | apply below_drew1 | refine below_set ?_ GE280.out | refine below_set ?_ GE287.out) | exact HB.out)⟩
end Go.Proofs.Ythkclagcbjnckaa.Pa

namespace Go.Proofs.Ythkclagcbjnckaa.Pa
set_option linter.unusedVariables false
set_option linter.unusedSimpArgs false
open Go.RowKit Go.Proofs.YthkclagcbjnckaaW.PrintWords Go.Proofs.YthkclagcbjnckaaW.PrintLast Go.Proofs.YthkclagcbjnckaaW.PrintMore
def sm : List S60 → Nat
  | [] => 0
  | m :: r => 2 * ((partsT m).length - 1) + sm r
theorem partsT_len (m : S60) : (partsT m).length - 1 = (if m.f0 > 1 then (varsF 0 m.f1).length else (varsF 0 m.f1).length - 1) := by
  unfold partsT
  split
  · simp
  · split
    · rename_i h; rw [h]; rfl
    · rfl
theorem mx0 (e : Nat) (h : e ≤ 100000) : mx (wrap64 ((e : Int) - 1)) 0 = ((e - 1 : Nat) : Int) := by
  cases e with
  | zero => decide +kernel
  | succ e =>
    rw [show ((e + 1 : Nat) : Int) - 1 = (e : Int) by omega, wrap_nat _ (by omega)]
    rw [show (0 : Int) = ((0 : Nat) : Int) from rfl, mx_nat]
    simp
theorem add2 (c e : Nat) (hc : c ≤ 10000000) (h : e ≤ 100000) : wrap64 ((c : Int) + wrap64 (2 * (e : Int))) = ((c + 2 * e : Nat) : Int) := by
  rw [show 2 * (e : Int) = ((2 * e : Nat) : Int) by push_cast; rfl, wrap_nat _ (by omega)]
  exact wrap_addN _ _ (by omega)
theorem ref_l1 (l : List S60) (res : Int × Int × List S27 × Int) (m : S60) (hok : okM m) (ix c : Nat) (hix : ix < l.length) (hl : l.length ≤ 200) (hc : c ≤ 1000000) (em : rd_T60 l (ix : Int) = m) : ∀ (re pe : List Int) (e : Nat), m.f1 = pe ++ re → e + 60 * re.length ≤ 1000 →
    Ev (fun k => tenetref24_Build.l0 k l ((c + 2 * (if m.f0 > 1 then e + (varsF (pe.length : Int) re).length else (e + (varsF (pe.length : Int) re).length) - 1) : Nat) : Int) ((ix + 1 : Nat) : Int)) res →
    Ev (fun k => tenetref24_Build.l1 k l (c : Int) (ix : Int) (e : Int) (pe.length : Int)) res := by
  intro re
  induction re with
  | nil =>
    intro pe e hp he h
    rw [List.append_nil] at hp
    have h8 := hok.2.1
    refine Ev.step (fun k => ?_) h
    simp only [tenetref24_Build.l1]
    rw [if_neg (by rw [← hp]; omega)]
    simp only [varsF, List.length_nil, Nat.add_zero]
    by_cases he0 : (e : Int) > 0
    · rw [if_pos he0, if_pos (by omega), if_pos (by omega), em]
      by_cases h1 : m.f0 > 1
      · rw [if_pos h1, if_pos h1, wrap_succ e (by simp at he; omega), mx0 (e + 1) (by simp at he; omega), Nat.add_sub_cancel, add2 c e (by omega) (by simp at he; omega), wrap_succ ix (by omega)]
      · rw [if_neg h1, if_neg h1, mx0 e (by simp at he; omega), add2 c (e - 1) (by omega) (by simp at he; omega), wrap_succ ix (by omega)]
    · rw [if_neg he0, mx0 e (by omega), add2 c (e - 1) (by omega) (by omega), wrap_succ ix (by omega)]
      have : e = 0 := by omega
      subst this
      simp
  | cons n re ih =>
    intro pe e hp he h
    have hlt : pe.length < m.f1.length := by rw [hp]; simp
    have h8 := hok.2.1
    have hn := hok.2.2 n (by rw [hp]; simp)
    have en : rd m.f1 (pe.length : Int) = (n.toNat : Int) := by rw [hp, rdI_mid]; omega
    simp only [List.length_cons] at he
    have hih := ih (pe ++ [n]) (e + n.toNat) (by rw [hp]; simp) (by omega)
    simp only [List.length_append, List.length_singleton] at hih
    refine Ev.step (f := fun k => tenetref24_Build.l1 k l (c : Int) (ix : Int) ((e + n.toNat : Nat) : Int) ((pe.length + 1 : Nat) : Int)) (fun k => ?_) (hih ?_)
    · simp only [tenetref24_Build.l1]
      rw [if_pos (by omega), if_pos (by omega), if_pos (by omega), if_pos (by omega), em, if_pos (by omega), en, wrap_addN e n.toNat (by omega), wrap_succ _ (by omega)]
    · rw [varsF, List.length_append, List.length_replicate] at h
      push_cast at h ⊢
      rw [← Nat.add_assoc] at h
      exact h
def num0 : S27 := ⟨1, 0, []⟩
theorem ref_l2 (l : List S60) (hl : l.length ≤ 200) (hm : ∀ m ∈ l, okM m) : ∀ (r pre : List S60) (o : Option S27), l = pre ++ r → (o.isSome = decide (0 < pre.length)) →
    Ev (fun k => tenetref24_Build.l2 k l (pre.length : Int) (o.getD num0).f0 (o.getD num0).f1 (o.getD num0).f2) (t4 ((r.foldl addT o).getD num0)) := by
  intro r
  induction r with
  | nil =>
    intro pre o hp ho
    rw [List.append_nil] at hp
    refine Ev.step (f := fun _ => some (t4 (o.getD num0))) (fun k => ?_) (Ev.now _)
    simp only [tenetref24_Build.l2]
    rw [if_neg (by rw [hp]; omega)]; rfl
  | cons m r ih =>
    intro pre o hp ho
    have hlt : pre.length < l.length := by rw [hp]; simp
    have em : rd_T60 l (pre.length : Int) = m := by rw [hp]; exact rdM_mid _ _ _
    have hok := hm m (by rw [hp]; simp)
    have hih := ih (pre ++ [m]) (addT o m) (by rw [hp]; simp) (by simp [addT])
    rw [List.length_append, List.length_singleton] at hih
    refine Ev.step (f := fun k => (tenetref24_product.f k m.f0 m.f1).bind fun bt => if (pre.length : Int) = 0 then tenetref24_Build.l2 k l (wrap64 ((pre.length : Int) + 1)) bt.1 bt.2.1 bt.2.2 else (tenetref24_Two.f 3 (o.getD num0).f0 (o.getD num0).f1 (o.getD num0).f2 bt.1 bt.2.1 bt.2.2).bind fun bt2 => tenetref24_Build.l2 k l (wrap64 ((pre.length : Int) + 1)) bt2.1 bt2.2.1 bt2.2.2) (fun k => ?_) ?_
    · simp only [tenetref24_Build.l2]
      rw [if_pos (by omega), if_pos (by omega), em]
    · refine Ev.bind (product_ev m hok.2.1 hok.2.2) ?_
      rw [wrap_succ _ (by omega)]
      have e0 : prodT (partsT m) = moT m := rfl
      rw [e0]
      cases o with
      | none =>
        have h0 : ¬ 0 < pre.length := by simpa using ho.symm
        simp only [if_pos (show (pre.length : Int) = 0 by omega)]
        exact hih
      | some x =>
        have h0 : 0 < pre.length := by simpa using ho.symm
        simp only [if_neg (show ¬ (pre.length : Int) = 0 by omega), tenetref24_Two.f, Option.bind_some, t3, Option.getD_some]
        refine Ev.congr (fun k => ?_) hih
        simp only [addT, Option.getD_some]
        cases x
        generalize moT m = y
        cases y
        rfl
theorem ref_loop (l : List S60) (hl : l.length ≤ 200) (hm : ∀ m ∈ l, okM m) : ∀ (r pre : List S60) (c : Nat), l = pre ++ r → c ≤ 1000 * pre.length + 1000 →
    Ev (fun k => tenetref24_Build.l0 k l (c : Int) (pre.length : Int)) (if r.any big6 then err2 else if c + sm r > 2000 then err2 else t4 ((l.foldl addT none).getD num0)) := by
  intro r
  induction r with
  | nil =>
    intro pre c hp hc
    rw [List.append_nil] at hp
    rw [show ([] : List S60).any big6 = false from rfl, if_neg (show ¬ (false = true) by simp)]
    have es : c + sm [] = c := rfl
    by_cases h2 : c + sm [] > 2000
    · rw [if_pos h2]
      refine Ev.step (f := fun _ => some err2) (fun k => ?_) (Ev.now _)
      simp only [tenetref24_Build.l0]
      rw [if_neg (by rw [hp]; omega), if_pos (by omega)]; rfl
    · rw [if_neg h2]
      refine Ev.step (fun k => ?_) (ref_l2 l hl hm l [] none rfl rfl)
      simp only [tenetref24_Build.l0]
      rw [if_neg (by rw [hp]; omega), if_neg (by omega)]; rfl
  | cons m r ih =>
    intro pre c hp hc
    have hlt : pre.length < l.length := by rw [hp]; simp
    have em : rd_T60 l (pre.length : Int) = m := by rw [hp]; exact rdM_mid _ _ _
    have hok := hm m (by rw [hp]; simp)
    by_cases hb : m.f0 > 1000000
    · have : (m :: r).any big6 = true := by simp [big6, hb]
      rw [this, if_pos rfl]
      refine Ev.step (f := fun _ => some err2) (fun k => ?_) (Ev.now _)
      simp only [tenetref24_Build.l0]
      rw [if_pos (by omega), if_pos (by omega), em, if_pos hb]; rfl
    · have e1 : (m :: r).any big6 = r.any big6 := by simp [big6, hb]
      rw [e1]
      have hpl := partsT_le m hok
      have hih := ih (pre ++ [m]) (c + 2 * ((partsT m).length - 1)) (by rw [hp]; simp) (by simp; omega)
      rw [List.length_append, List.length_singleton, Nat.add_assoc] at hih
      rw [sm]
      refine Ev.step (f := fun k => tenetref24_Build.l1 k l (c : Int) (pre.length : Int) ((0 : Nat) : Int) ((([] : List Int).length : Nat) : Int)) (fun k => ?_) ?_
      · simp only [tenetref24_Build.l0]
        rw [if_pos (by omega), if_pos (by omega), em, if_neg hb]; rfl
      · refine ref_l1 l _ m hok pre.length c hlt hl (by omega) em m.f1 [] 0 rfl (by rw [hok.2.1]; omega) ?_
        rw [Nat.zero_add, show ((([] : List Int).length : Nat) : Int) = 0 from rfl, ← partsT_len]
        exact hih
theorem nodes_sum : ∀ (r : List S60) (x : S27), nodes ((r.foldl addT (some x)).getD num0) = nodes x + sm r + 2 * r.length
  | [], _ => by simp [sm]
  | m :: r, x => by
    have h1 := nodes_moT m
    have h2 : 1 ≤ (partsT m).length := List.length_pos_iff.2 (partsT_ne m)
    show nodes ((r.foldl addT (some ⟨3, 0, [x, moT m]⟩)).getD num0) = _
    rw [nodes_sum r, nodes_two, sm, List.length_cons]
    omega
theorem getD_same : ∀ (r : List S60) (x : S27), (r.foldl addT (some x)).getD zz = (r.foldl addT (some x)).getD num0
  | [], _ => rfl
  | _ :: r, _ => getD_same r _
theorem okM_of {l : List S60} (h : isB l = true) : l.length ≤ 200 ∧ ∀ m ∈ l, okM m := by
  unfold isB at h
  rw [Bool.and_eq_true, decide_eq_true_eq] at h
  refine ⟨h.1, ?_⟩
  have key : ∀ (l : List S60) (p : Option (List Int)), isR p l = true → ∀ m ∈ l, okM m := by
    intro l
    induction l with
    | nil => intro p _ m hm; simp at hm
    | cons a l ih =>
      intro p h m hm
      rw [isR, Bool.and_eq_true, Bool.and_eq_true, Bool.and_eq_true] at h
      obtain ⟨h1, _, h3, h4⟩ := h
      rcases List.mem_cons.1 hm with rfl | hm
      · unfold monoB at h1
        simp only [Bool.and_eq_true, decide_eq_true_eq] at h1
        unfold expsB at h3
        rw [List.all_eq_true] at h3
        exact ⟨h1.1.1, h1.2, fun x hx => by have := h3 x hx; simpa using this⟩
      · exact ih _ h4 m hm
  exact key l none h.2
theorem builds_same (l : List S60) : ∃ b : Int × Int × List S27 × Int, Ev (fun k => ring_Build.f k l) b ∧ Ev (fun k => tenetref24_Build.f k l) b ∧ nodes (buildOf b) ≤ 2001 := by
  cases h : isB l with
  | false =>
    refine ⟨(0, 0, [], 4), ?_, ?_, by rw [buildOf, nodes_nil]; omega⟩
    · refine Ev.congr (f := fun _ => some (0, 0, [], 4)) (fun k => ?_) (Ev.now _)
      simp only [ring_Build.f, ring_read.f, Option.bind_some, h]; rfl
    · refine Ev.congr (f := fun k => (tenetref24_Is.f k l).bind fun t => if t = true then tenetref24_Build.l0 k l (mx (wrap64 ((wrap64 (2 * (l.length : Int))) - 1)) 1) 0 else some (0, 0, [], 4)) (fun k => rfl) ?_
      refine Ev.bind (Is_ev l) ?_
      rw [h]
      exact Ev.now _
  | true =>
    obtain ⟨hl, hm⟩ := okM_of h
    have h1 := ring_loop l hl hm l [] none rfl rfl (by rw [Option.getD_none, zz, nodes_nil]; simp)
    have h2 := ref_loop l hl hm l [] (max (2 * l.length - 1) 1) rfl (by simp; omega)
    have e : finish l (l.foldl addT none) = if max (2 * l.length - 1) 1 + sm l > 2000 then err2 else t4 ((l.foldl addT none).getD num0) := by
      unfold finish
      cases l with
      | nil => rfl
      | cons m r =>
        have hn := nodes_sum r (moT m)
        have h3 := nodes_moT m
        have h4 : 1 ≤ (partsT m).length := List.length_pos_iff.2 (partsT_ne m)
        rw [if_neg (by simp), List.foldl_cons, show addT none m = some (moT m) from rfl, getD_same, hn, sm, List.length_cons]
        have : (nodes (moT m) + sm r + 2 * r.length > 2000) = (max (2 * (r.length + 1) - 1) 1 + (2 * ((partsT m).length - 1) + sm r) > 2000) := by
          apply propext
          rw [show max (2 * (r.length + 1) - 1) 1 = 2 * r.length + 1 by omega]
          omega
        simp only [this]
    rw [← e] at h2
    have e5 : (fun k => tenetref24_Build.l0 k l (mx (wrap64 ((wrap64 (2 * (l.length : Int))) - 1)) 1) 0) = fun k => tenetref24_Build.l0 k l ((max (2 * l.length - 1) 1 : Nat) : Int) ((([] : List S60).length : Nat) : Int) := by
      have : mx (wrap64 ((wrap64 (2 * (l.length : Int))) - 1)) 1 = ((max (2 * l.length - 1) 1 : Nat) : Int) := by
        rw [show 2 * (l.length : Int) = ((2 * l.length : Nat) : Int) by push_cast; rfl, wrap_nat _ (by omega)]
        cases l with
        | nil => decide +kernel
        | cons m r =>
          rw [show ((2 * (m :: r).length : Nat) : Int) - 1 = ((2 * (m :: r).length - 1 : Nat) : Int) by simp only [List.length_cons]; omega, wrap_nat _ (by omega)]
          exact mx_nat _ 1
      rw [this]; rfl
    refine ⟨_, ?_, Ev.congr (f := fun k => (tenetref24_Is.f k l).bind fun t => if t = true then tenetref24_Build.l0 k l (mx (wrap64 ((wrap64 (2 * (l.length : Int))) - 1)) 1) 0 else some (0, 0, [], 4)) (fun k => rfl) (Ev.bind (Is_ev l) (by rw [h]; simp only [if_true]; rw [e5]; exact h2)), ?_⟩
    · refine Ev.congr (fun k => ?_) h1
      simp only [ring_Build.f, ring_read.f, Option.bind_some, h]; rfl
    · split
      · rw [buildOf, err2, nodes_nil]; omega
      · unfold finish
        split
        · rw [buildOf, nodes_nil]; omega
        · split
          · rw [buildOf, err2, nodes_nil]; omega
          · rename_i hh
            have : buildOf (t4 ((l.foldl addT none).getD zz)) = (l.foldl addT none).getD zz := by
              generalize (l.foldl addT none).getD zz = z
              cases z; rfl
            rw [this]; omega
end Go.Proofs.Ythkclagcbjnckaa.Pa

namespace Go.Proofs.Ythkclagcbjnckaa.Pa
set_option linter.unusedVariables false
set_option linter.unusedSimpArgs false
open Go.RowKit Go.Proofs.YthkclagcbjnckaaW.PrintWords Go.Proofs.YthkclagcbjnckaaW.PrintLast Go.Proofs.YthkclagcbjnckaaW.PrintMore
theorem bigList_ev (l : List S60) : ∃ b, Ev (fun k => tenetlaw24_bigList.f k l) b := by
  by_cases hl : l.length ≤ 300
  case neg =>
    refine ⟨true, Ev.congr (f := fun _ => some true) (fun k => ?_) (Ev.now _)⟩
    simp only [tenetlaw24_bigList.f]
    rw [if_pos (by omega)]
  have loop : ∀ (r pre : List S60), l = pre ++ r → ∃ b, Ev (fun k => tenetlaw24_bigList.l0 k l (pre.length : Int)) b := by
    intro r
    induction r with
    | nil =>
      intro pre hp
      rw [List.append_nil] at hp
      refine ⟨false, Ev.step (f := fun _ => some false) (fun k => ?_) (Ev.now _)⟩
      simp only [tenetlaw24_bigList.l0]
      rw [if_neg (by rw [hp]; omega)]
    | cons m r ih =>
      intro pre hp
      have hlt : pre.length < l.length := by rw [hp]; simp
      obtain ⟨b, hb⟩ := ih (pre ++ [m]) (by rw [hp]; simp)
      rw [List.length_append, List.length_singleton] at hb
      by_cases h : ((rd_T60 l (pre.length : Int)).f1.length : Int) > 20
      · refine ⟨true, Ev.step (f := fun _ => some true) (fun k => ?_) (Ev.now _)⟩
        simp only [tenetlaw24_bigList.l0]
        rw [if_pos (by omega), if_pos (by omega), if_pos h]
      · refine ⟨b, Ev.step (fun k => ?_) hb⟩
        simp only [tenetlaw24_bigList.l0]
        rw [if_pos (by omega), if_pos (by omega), if_neg h, wrap_succ _ (by omega)]
  obtain ⟨b, hb⟩ := loop l [] rfl
  refine ⟨b, Ev.congr (fun k => ?_) hb⟩
  simp only [tenetlaw24_bigList.f]
  rw [if_neg (by omega)]; rfl
theorem RingBuilds_pure (l : List S60) : ∃ k, tenetlaw24_RingBuilds.f k l = some true := by
  obtain ⟨b, hb⟩ := bigList_ev l
  refine Ev.rounds (g := fun k => tenetlaw24_RingBuilds.f k l) ?_
  refine Ev.congr (f := fun k => (tenetlaw24_bigList.f k l).bind fun t206 => (if t206 = true then ((tenetlaw24_awake.f).bind fun t207 => (some t207)) else ((ring_Build.f k l).bind fun bt208 => ((tenetref24_Build.f k l).bind fun bt215 => (if bt208.2.2.2 = bt215.2.2.2 then ((tenetref24_Eq.f k bt208.1 bt208.2.1 bt208.2.2.1 bt215.1 bt215.2.1 bt215.2.2.1).bind fun t222 => (if t222 = true then ((tenetlaw24_awake.f).bind fun t223 => (some t223)) else (some false))) else (some false)))))) (fun k => rfl) ?_
  refine Ev.bind hb ?_
  cases b with
  | true => simp only [if_true]; exact Ev.now _
  | false =>
    simp only [Bool.false_eq_true, if_false]
    obtain ⟨r, h1, h2, hn⟩ := builds_same l
    refine Ev.bind h1 (Ev.bind h2 ?_)
    simp only [if_true]
    refine Ev.bind (Eq_self (buildOf r) (by omega)) ?_
    simp only [if_true]
    exact Ev.now _
theorem RingBuilds_walk (A : Option Addr) (c : Nat) (l : List S60) (w : World) (hr : k60.C w A l.length l) (hc : l.length ≤ c) :
    Calls Try.prog 3 #[.slice A l.length c] w fun e w' => e = .returned (.bool true) ∧ Below w.heap.size w w' := by
  obtain ⟨k, hk⟩ := RingBuilds_pure l
  exact tenetlaw24_RingBuilds.calls k A c l true w hr hc hk
end Go.Proofs.Ythkclagcbjnckaa.Pa

namespace Go.Proofs.Ythkclagcbjnckaa.Pa
open Go.RowKit Go.ChangeShapes Go.WideShapes Go.Deep Go.Proofs.YthkclagcbjnckaaW.PrintWords Go.Proofs.YthkclagcbjnckaaW.PrintLast Go.Proofs.YthkclagcbjnckaaW.PrintMore
section
variable {H : Type} {enc : TypeId × Value → H} {w : World} {base : Nat} {spare : Nat → Bool} {held : Bool}
theorem cells3 : Try.prog.cellsOf 3 = 1 := by kernel_rfl
theorem cells60 : Try.prog.cellsOf 60 = 2 := by kernel_rfl
theorem cells33 : Try.prog.cellsOf 33 = 1 := by kernel_rfl
theorem open33 {fuel : Nat} {cs : List Value} {x : DataW H × List MemPlace} (h : DataW.trod enc Try.prog w base spare held fuel 33 cs = some x) :
    ∃ A c, ∃ l : List Int, cs = [.slice A l.length c] ∧ l.length ≤ c ∧ (Kd.int .i64).C w A l.length l ∧ ∀ n ∈ l, (Lit.int .i64 n).wf = true := by
  rcases open_ints Try.underlying33 Try.underlying3 cells3 h with ⟨rfl, _⟩ | ⟨a, len, cap, zs, rfl, _, hl, hm, hz, _, hc, hw⟩
  · exact ⟨none, 0, [], rfl, Nat.le_refl _, ⟨rfl, by simp, fun h => absurd h (Nat.lt_irrefl _)⟩, by simp⟩
  · have hlen : len ≤ zs.length := by rw [hz]; split <;> omega
    have hl2 : (zs.take len).length = len := by rw [List.length_take]; omega
    refine ⟨some a, cap, zs.take len, by rw [hl2], by omega, ⟨rfl, by have : maxLen ≤ 9223372036854775807 := (by decide); omega, fun _ => ⟨a, rfl, fun j p hj => ⟨[.int .i64 p], rfl, rfl, fun i u hu => ?_⟩⟩⟩, fun n hn => hw n (List.mem_of_mem_take hn)⟩
    have hj1 : j < len := by rw [← hl2]; exact (List.getElem?_eq_some_iff.1 hj).1
    cases i with
    | succ i => simp at hu
    | zero =>
      simp only [List.getElem?_cons_zero, Option.some.injEq] at hu
      subst hu
      have h1 := hc j (by omega)
      rw [List.getElem?_take_of_lt hj1] at hj
      rw [List.getD_eq_getElem?_getD, hj] at h1
      show w.cell? (a.add (j * 1 + 0)) = _
      rw [Nat.mul_one, Nat.add_zero]
      exact h1
theorem open22 {fuel : Nat} {cs : List Value} {x : DataW H × List MemPlace} (h : DataW.trod enc Try.prog w base spare held fuel 22 cs = some x) :
    ∃ A c, ∃ l : List S60, cs = [.slice A l.length c] ∧ l.length ≤ c ∧ k60.C w A l.length l ∧ ∀ m ∈ l, (Lit.int .i64 m.f0).wf = true ∧ ∀ n ∈ m.f1, (Lit.int .i64 n).wf = true := by
  rcases open_slice_pairs Try.underlying22 Try.underlying60 cells60 rfl rfl cells3 cells33 h with ⟨rfl, _⟩ | ⟨a, len, cap, m, n, V0, V1, D0, D1, P0, P1, rfl, _, hl, hm, hmm, _, hc⟩
  · exact ⟨none, 0, [], rfl, Nat.le_refl _, ⟨rfl, by simp, fun h => absurd h (Nat.lt_irrefl _)⟩, by simp⟩
  · have hlm : len ≤ m := by rw [hmm]; split <;> omega
    have each : ∀ i, i < len → ∃ q : S60, k60.K w q [V0 i, V1 i] ∧ (Lit.int .i64 q.f0).wf = true ∧ ∀ n ∈ q.f1, (Lit.int .i64 n).wf = true := by
      intro i hi
      obtain ⟨_, _, t0, t1⟩ := hc i (by omega)
      obtain ⟨z, hz, _, hw⟩ := DataW.trod_int Try.underlying3 t0
      obtain ⟨A, c, l, hl1, hl2, hl3, hl4⟩ := open33 t1
      injection hz with hz _
      injection hl1 with hl1 _
      rw [hz, hl1]
      exact ⟨⟨z, l⟩, k60_mk w ⟨z, l⟩ hl2 hl3, hw, hl4⟩
    haveI : Inhabited S60 := ⟨z60⟩
    obtain ⟨q, hq⟩ := choose_lt each
    have hl2 : ((List.range len).map q).length = len := by simp
    refine ⟨some a, cap, (List.range len).map q, by rw [hl2], by omega, ⟨rfl, by have : maxLen ≤ 9223372036854775807 := (by decide); omega, fun _ => ⟨a, rfl, fun j p hj => ?_⟩⟩, fun z hz => ?_⟩
    · have hj1 : j < len := by rw [← hl2]; exact (List.getElem?_eq_some_iff.1 hj).1
      rw [List.getElem?_map, List.getElem?_range hj1] at hj
      injection hj with hj
      subst hj
      obtain ⟨c0, c1, _, _⟩ := hc j (by omega)
      refine ⟨[V0 j, V1 j], rfl, (hq j hj1).1, fun i u hu => ?_⟩
      match i, hu with
      | 0, hu => injection hu with hu; subst hu; exact c0
      | 1, hu => injection hu with hu; subst hu; exact c1
    · obtain ⟨i, hi, rfl⟩ := List.mem_map.1 hz
      exact (hq i (List.mem_range.1 hi)).2
end
end Go.Proofs.Ythkclagcbjnckaa.Pa

