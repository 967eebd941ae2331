import Derived.Test.YthkclagcbjnckaaJA2
set_option linter.unusedVariables false
set_option linter.unusedSimpArgs false

namespace Go.Proofs.Ythkclagcbjnckaa.Pa
open Go.RowKit Go.Proofs.YthkclagcbjnckaaW.PrintWords Go.Proofs.YthkclagcbjnckaaW.PrintLast Go.Proofs.YthkclagcbjnckaaW.PrintMore
attribute [local go_sem] max2_int min2_int max_two min_two max_three min_three max_four min_four
set_option linter.unusedVariables false
set_option linter.unusedSimpArgs false
def tenetref24_times.l0 : Nat → Int → Int → List Int → Int → List Int → Int → List Int → Option (Int × List Int × Bool)
 | 0, _, _, _, _, _, _, _ => none
 | k + 1, x7, x361000, x361001, x362000, x362001, x364000, x364001 => if x7 < 8 then (if 0 ≤ x7 then (if x7 < (x361001.length : Int) then (if x7 < (x362001.length : Int) then (if (wrap64 ((rd x361001 x7) + (rd x362001 x7))) > 60 then (some (0, ([] : List Int), false)) else (if x364001.length < 17592186044416 then (tenetref24_times.l0 k (wrap64 (x7 + 1)) x361000 x361001 x362000 x362001 x364000 (x364001 ++ [wrap64 ((rd x361001 x7) + (rd x362001 x7))])) else (none))) else (none)) else (none)) else (none)) else (some (x364000, x364001, true))
def tenetref24_times.f (k : Nat) (a0_0 : Int) (l0_1 : List Int) (a1_0 : Int) (l1_1 : List Int) : Option (Int × List Int × Bool) := if a1_0 = 0 then (none) else (if a0_0 > (wrap64 ((1000000000000000 : Int) / a1_0)) then (some (0, ([] : List Int), false)) else (tenetref24_times.l0 k 0 a0_0 l0_1 a1_0 l1_1 (wrap64 (a0_0 * a1_0)) ([] : List Int)))
set_option maxHeartbeats 8000000 in
set_option maxRecDepth 100000 in
theorem tenetref24_times.calls (k : Nat) (a0_0 : Int) (A0_1 : Option Addr) (c0_1 : Nat) (l0_1 : List Int) (a1_0 : Int) (A1_1 : Option Addr) (c1_1 : Nat) (l1_1 : List Int) (r1 : Int) (r2 : List Int) (r3 : Bool) (w : World) (hr0_1 : Kd.C (Kd.int .i64) w A0_1 l0_1.length l0_1) (hc0_1 : l0_1.length ≤ c0_1) (hr1_1 : Kd.C (Kd.int .i64) w A1_1 l1_1.length l1_1) (hc1_1 : l1_1.length ≤ c1_1) (h : tenetref24_times.f k a0_0 l0_1 a1_0 l1_1 = some (r1, r2, r3)) :
  Calls Try.prog 97 #[.agg #[.int .i64 a0_0, .slice A0_1 l0_1.length c0_1], .agg #[.int .i64 a1_0, .slice A1_1 l1_1.length c1_1]] w fun e w' => ∃ v1_ : Value, e = .returned (.tuple #[.agg #[.int .i64 r1, v1_], .bool r3]) ∧ Kd.R (Kd.int .i64) 3 w' w.heap.size (fun _ => True) v1_ r2 ∧ Below w.heap.size w w' := by
 have hu60 := Try.underlying60
 have HR0_1 := Aside0.mk hr0_1
 have HC0_1 := Aside0.mk hc0_1
 clear hr0_1 hc0_1
 have HR1_1 := Aside0.mk hr1_1
 have HC1_1 := Aside0.mk hc1_1
 clear hr1_1 hc1_1
 have HB := Aside0.mk (Below.refl w.heap.size w)
 have H : (if a1_0 = 0 then (none) else (if a0_0 > (wrap64 ((1000000000000000 : Int) / a1_0)) then (some (0, ([] : List Int), false)) else (tenetref24_times.l0 k 0 a0_0 l0_1 a1_0 l1_1 (wrap64 (a0_0 * a1_0)) ([] : List Int)))) = some (r1, r2, r3) := h
 clear h
 by_cases c3 : a1_0 = 0
 ·rw [if_pos c3] at H
  exact absurd H (by simp)
 ·rw [if_neg c3] at H
  have c3b0 : (a1_0 == 0) = false := beq_eq_false_iff_ne.mpr c3
  have c3b1 : (a1_0 != 0) = true := bne_iff_ne.mpr c3
  by_cases c4 : a0_0 > (wrap64 ((1000000000000000 : Int) / a1_0))
  ·rw [if_pos c4] at H
   have c4b0 : decide ((wrap64 ((1000000000000000 : Int) / a1_0)) < a0_0) = true := decide_eq_true c4
   have c4t0 : decide ((wrap64 (Int.tdiv (1000000000000000 : Int) a1_0)) < a0_0) = true := by rw [Int.tdiv_eq_ediv_of_nonneg (by decide)]; exact c4b0
   clear c4
   simp only [Option.some.injEq, Prod.mk.injEq] at H
   obtain ⟨rfl, rfl, rfl⟩ := H
   go_enter Try.func97, Try.ntmps97
   go_wp2_with (first | ((with_reducible refine gate_dst (N := 2) rfl ?_); refine box_event ?hg (N := 2) ?hd (cs := #[.int .i64 a0_0, .slice A0_1 l0_1.length c0_1]) (t := 60) ?hr ?_; (case hd => rfl); (case hg => rfl); (case hr => first | (go_simp; done) | (go_simp; rfl)); intro gb360 hg w5 hbox hb; have n0_ := Aside0.mk (below_step (by repeat (first | (with_reducible first | exact HB.out | apply below_alloc | apply pw_below_drewN | apply below_drew1) | exact HB.out)) hb); have n1_ := Aside0.mk (hbox); have n2_ := Aside0.mk ((by rw [hg]; exact (below_size (by repeat (first | (with_reducible first | exact HB.out | apply below_alloc | apply pw_below_drewN | apply below_drew1) | exact HB.out))) : w.heap.size ≤ gb360)); have n3_ := Aside0.mk ((by rw [hg]; exact (below_size (by repeat (first | (with_reducible first | exact HB.out | apply below_alloc | apply pw_below_drewN | apply below_drew1) | exact HB.out))) : w.heap.size ≤ gb360)); clear HB; have HB := n0_; have BK360 := n1_; have GW360 := n2_; have GE360 := n3_; clear n0_ n1_ n2_ n3_; clear hb hbox hg) | ((with_reducible refine gate_dst (N := 3) rfl ?_); refine box_event ?hg (N := 3) ?hd (cs := #[.int .i64 a1_0, .slice A1_1 l1_1.length c1_1]) (t := 60) ?hr ?_; (case hd => rfl); (case hg => rfl); (case hr => first | (go_simp; done) | (go_simp; rfl)); intro gb361 hg w6 hbox hb; have n0_ := Aside0.mk (blk_below (g := gb360) (o := .cells #[.int .i64 a0_0, .slice A0_1 l0_1.length c0_1] 60 (0, 0)) (by (with_reducible repeat (first | refine blk_drewN ?_ _ | refine blk_drew ?_ | refine blk_alloc ?_ _)); exact BK360.out) hb); have n1_ := Aside0.mk (below_step (by repeat (first | (with_reducible first | exact HB.out | apply below_alloc | apply pw_below_drewN | apply below_drew1 | refine below_set ?_ GE360.out) | exact HB.out)) hb); have n2_ := Aside0.mk (hbox); have n3_ := Aside0.mk ((by rw [hg]; exact (below_size (by repeat (first | (with_reducible first | exact HB.out | apply below_alloc | apply pw_below_drewN | apply below_drew1 | refine below_set ?_ GE360.out) | exact HB.out))) : w.heap.size ≤ gb361)); have n4_ := Aside0.mk ((by rw [hg]; exact (below_size (by repeat (first | (with_reducible first | exact HB.out | apply below_alloc | apply pw_below_drewN | apply below_drew1 | refine below_set ?_ GE360.out) | exact HB.out))) : w.heap.size ≤ gb361)); have n5_ := Aside0.mk ((by rw [hg]; exact Nat.ne_of_lt (blk_lt (g := gb360) (o := .cells #[.int .i64 a0_0, .slice A0_1 l0_1.length c0_1] 60 (0, 0)) (by (with_reducible repeat (first | refine blk_drewN ?_ _ | refine blk_drew ?_ | refine blk_alloc ?_ _)); exact BK360.out)) : gb360 ≠ gb361)); have n6_ := Aside0.mk ((by rw [hg]; exact Nat.ne_of_gt (blk_lt (g := gb360) (o := .cells #[.int .i64 a0_0, .slice A0_1 l0_1.length c0_1] 60 (0, 0)) (by (with_reducible repeat (first | refine blk_drewN ?_ _ | refine blk_drew ?_ | refine blk_alloc ?_ _)); exact BK360.out)) : gb361 ≠ gb360)); clear BK360; clear HB; have BK360 := n0_; have HB := n1_; have BK361 := n2_; have GW361 := n3_; have GE361 := n4_; have NB360_361 := n5_; have NB361_360 := n6_; clear n0_ n1_ n2_ n3_ n4_ n5_ n6_; clear hb hbox hg) | ((with_reducible refine gate_dst (N := 4) rfl ?_); refine box_event ?hg (N := 4) ?hd (cs := #[.int .i64 0, .slice none 0 0]) (t := 60) ?hr ?_; (case hd => rfl); (case hg => rfl); (case hr => first | (go_simp; done) | (go_simp; rfl)); intro gb362 hg w7 hbox hb; have n0_ := Aside0.mk (blk_below (g := gb360) (o := .cells #[.int .i64 a0_0, .slice A0_1 l0_1.length c0_1] 60 (0, 0)) (by (with_reducible repeat (first | refine blk_drewN ?_ _ | refine blk_drew ?_ | refine blk_alloc ?_ _)); exact BK360.out) hb); have n1_ := Aside0.mk (blk_below (g := gb361) (o := .cells #[.int .i64 a1_0, .slice A1_1 l1_1.length c1_1] 60 (0, 0)) (by (with_reducible repeat (first | refine blk_drewN ?_ _ | refine blk_drew ?_ | refine blk_alloc ?_ _)); exact BK361.out) hb); have n2_ := Aside0.mk (below_step (by repeat (first | (with_reducible first | exact HB.out | apply below_alloc | apply pw_below_drewN | apply below_drew1 | refine below_set ?_ GE360.out | refine below_set ?_ GE361.out) | exact HB.out)) hb); have n3_ := Aside0.mk (hbox); have n4_ := Aside0.mk ((by rw [hg]; exact (below_size (by repeat (first | (with_reducible first | exact HB.out | apply below_alloc | apply pw_below_drewN | apply below_drew1 | refine below_set ?_ GE360.out | refine below_set ?_ GE361.out) | exact HB.out))) : w.heap.size ≤ gb362)); have n5_ := Aside0.mk ((by rw [hg]; exact (below_size (by repeat (first | (with_reducible first | exact HB.out | apply below_alloc | apply pw_below_drewN | apply below_drew1 | refine below_set ?_ GE360.out | refine below_set ?_ GE361.out) | exact HB.out))) : w.heap.size ≤ gb362)); have n6_ := Aside0.mk ((by rw [hg]; exact Nat.ne_of_lt (blk_lt (g := gb360) (o := .cells #[.int .i64 a0_0, .slice A0_1 l0_1.length c0_1] 60 (0, 0)) (by (with_reducible repeat (first | refine blk_drewN ?_ _ | refine blk_drew ?_ | refine blk_alloc ?_ _)); exact BK360.out)) : gb360 ≠ gb362)); have n7_ := Aside0.mk ((by rw [hg]; exact Nat.ne_of_gt (blk_lt (g := gb360) (o := .cells #[.int .i64 a0_0, .slice A0_1 l0_1.length c0_1] 60 (0, 0)) (by (with_reducible repeat (first | refine blk_drewN ?_ _ | refine blk_drew ?_ | refine blk_alloc ?_ _)); exact BK360.out)) : gb362 ≠ gb360)); have n8_ := Aside0.mk ((by rw [hg]; exact Nat.ne_of_lt (blk_lt (g := gb361) (o := .cells #[.int .i64 a1_0, .slice A1_1 l1_1.length c1_1] 60 (0, 0)) (by (with_reducible repeat (first | refine blk_drewN ?_ _ | refine blk_drew ?_ | refine blk_alloc ?_ _)); exact BK361.out)) : gb361 ≠ gb362)); have n9_ := Aside0.mk ((by rw [hg]; exact Nat.ne_of_gt (blk_lt (g := gb361) (o := .cells #[.int .i64 a1_0, .slice A1_1 l1_1.length c1_1] 60 (0, 0)) (by (with_reducible repeat (first | refine blk_drewN ?_ _ | refine blk_drew ?_ | refine blk_alloc ?_ _)); exact BK361.out)) : gb362 ≠ gb361)); clear BK360; clear BK361; clear HB; have BK360 := n0_; have BK361 := n1_; have HB := n2_; have BK362 := n3_; have GW362 := n4_; have GE362 := n5_; have NB360_362 := n6_; have NB362_360 := n7_; have NB361_362 := n8_; have NB362_361 := n9_; clear n0_ n1_ n2_ n3_ n4_ n5_ n6_ n7_ n8_ n9_; clear hb hbox hg; have hnb8 := NB360_361.out; have hnc8 := NB361_360.out; have hnb9 := NB360_362.out; have hnc9 := NB362_360.out; have hcz10_0 : w7.cell? ⟨gb360, 0, none⟩ = some (.int .i64 a0_0) := (blk_cell BK360.out 0).trans rfl; have hcz10_1 : w7.cell? ⟨gb360, 1, none⟩ = some (.slice A0_1 l0_1.length c0_1) := (blk_cell BK360.out 1).trans rfl; have hfz10_0 := blk_frozen BK360.out 0; have hfz10_1 := blk_frozen BK360.out 1; have hnb11 := NB361_362.out; have hnc11 := NB362_361.out; have hcz12_0 : w7.cell? ⟨gb361, 0, none⟩ = some (.int .i64 a1_0) := (blk_cell BK361.out 0).trans rfl; have hcz12_1 : w7.cell? ⟨gb361, 1, none⟩ = some (.slice A1_1 l1_1.length c1_1) := (blk_cell BK361.out 1).trans rfl; have hfz12_0 := blk_frozen BK361.out 0; have hfz12_1 := blk_frozen BK361.out 1; have hcz13_0 : w7.cell? ⟨gb362, 0, none⟩ = some (.int .i64 0) := (blk_cell BK362.out 0).trans rfl; have hcz13_1 : w7.cell? ⟨gb362, 1, none⟩ = some (.slice none 0 0) := (blk_cell BK362.out 1).trans rfl; have hfz13_0 := blk_frozen BK362.out 0; have hfz13_1 := blk_frozen BK362.out 1))
   repeat (go_quiet (first | ((with_reducible refine gate_dst (N := 2) rfl ?_); refine box_event ?hg (N := 2) ?hd (cs := #[.int .i64 a0_0, .slice A0_1 l0_1.length c0_1]) (t := 60) ?hr ?_; (case hd => rfl); (case hg => rfl); (case hr => first | (go_simp; done) | (go_simp; rfl)); intro gb360 hg w5 hbox hb; have n0_ := Aside0.mk (below_step (by repeat (first | (with_reducible first | exact HB.out | apply below_alloc | apply pw_below_drewN | apply below_drew1) | exact HB.out)) hb); have n1_ := Aside0.mk (hbox); have n2_ := Aside0.mk ((by rw [hg]; exact (below_size (by repeat (first | (with_reducible first | exact HB.out | apply below_alloc | apply pw_below_drewN | apply below_drew1) | exact HB.out))) : w.heap.size ≤ gb360)); have n3_ := Aside0.mk ((by rw [hg]; exact (below_size (by repeat (first | (with_reducible first | exact HB.out | apply below_alloc | apply pw_below_drewN | apply below_drew1) | exact HB.out))) : w.heap.size ≤ gb360)); clear HB; have HB := n0_; have BK360 := n1_; have GW360 := n2_; have GE360 := n3_; clear n0_ n1_ n2_ n3_; clear hb hbox hg) | ((with_reducible refine gate_dst (N := 3) rfl ?_); refine box_event ?hg (N := 3) ?hd (cs := #[.int .i64 a1_0, .slice A1_1 l1_1.length c1_1]) (t := 60) ?hr ?_; (case hd => rfl); (case hg => rfl); (case hr => first | (go_simp; done) | (go_simp; rfl)); intro gb361 hg w6 hbox hb; have n0_ := Aside0.mk (blk_below (g := gb360) (o := .cells #[.int .i64 a0_0, .slice A0_1 l0_1.length c0_1] 60 (0, 0)) (by (with_reducible repeat (first | refine blk_drewN ?_ _ | refine blk_drew ?_ | refine blk_alloc ?_ _)); exact BK360.out) hb); have n1_ := Aside0.mk (below_step (by repeat (first | (with_reducible first | exact HB.out | apply below_alloc | apply pw_below_drewN | apply below_drew1 | refine below_set ?_ GE360.out) | exact HB.out)) hb); have n2_ := Aside0.mk (hbox); have n3_ := Aside0.mk ((by rw [hg]; exact (below_size (by repeat (first | (with_reducible first | exact HB.out | apply below_alloc | apply pw_below_drewN | apply below_drew1 | refine below_set ?_ GE360.out) | exact HB.out))) : w.heap.size ≤ gb361)); have n4_ := Aside0.mk ((by rw [hg]; exact (below_size (by repeat (first | (with_reducible first | exact HB.out | apply below_alloc | apply pw_below_drewN | apply below_drew1 | refine below_set ?_ GE360.out) | exact HB.out))) : w.heap.size ≤ gb361)); have n5_ := Aside0.mk ((by rw [hg]; exact Nat.ne_of_lt (blk_lt (g := gb360) (o := .cells #[.int .i64 a0_0, .slice A0_1 l0_1.length c0_1] 60 (0, 0)) (by (with_reducible repeat (first | refine blk_drewN ?_ _ | refine blk_drew ?_ | refine blk_alloc ?_ _)); exact BK360.out)) : gb360 ≠ gb361)); have n6_ := Aside0.mk ((by rw [hg]; exact Nat.ne_of_gt (blk_lt (g := gb360) (o := .cells #[.int .i64 a0_0, .slice A0_1 l0_1.length c0_1] 60 (0, 0)) (by (with_reducible repeat (first | refine blk_drewN ?_ _ | refine blk_drew ?_ | refine blk_alloc ?_ _)); exact BK360.out)) : gb361 ≠ gb360)); clear BK360; clear HB; have BK360 := n0_; have HB := n1_; have BK361 := n2_; have GW361 := n3_; have GE361 := n4_; have NB360_361 := n5_; have NB361_360 := n6_; clear n0_ n1_ n2_ n3_ n4_ n5_ n6_; clear hb hbox hg) | ((with_reducible refine gate_dst (N := 4) rfl ?_); refine box_event ?hg (N := 4) ?hd (cs := #[.int .i64 0, .slice none 0 0]) (t := 60) ?hr ?_; (case hd => rfl); (case hg => rfl); (case hr => first | (go_simp; done) | (go_simp; rfl)); intro gb362 hg w7 hbox hb; have n0_ := Aside0.mk (blk_below (g := gb360) (o := .cells #[.int .i64 a0_0, .slice A0_1 l0_1.length c0_1] 60 (0, 0)) (by (with_reducible repeat (first | refine blk_drewN ?_ _ | refine blk_drew ?_ | refine blk_alloc ?_ _)); exact BK360.out) hb); have n1_ := Aside0.mk (blk_below (g := gb361) (o := .cells #[.int .i64 a1_0, .slice A1_1 l1_1.length c1_1] 60 (0, 0)) (by (with_reducible repeat (first | refine blk_drewN ?_ _ | refine blk_drew ?_ | refine blk_alloc ?_ _)); exact BK361.out) hb); have n2_ := Aside0.mk (below_step (by repeat (first | (with_reducible first | exact HB.out | apply below_alloc | apply pw_below_drewN | apply below_drew1 | refine below_set ?_ GE360.out | refine below_set ?_ GE361.out) | exact HB.out)) hb); have n3_ := Aside0.mk (hbox); have n4_ := Aside0.mk ((by rw [hg]; exact (below_size (by repeat (first | (with_reducible first | exact HB.out | apply below_alloc | apply pw_below_drewN | apply below_drew1 | refine below_set ?_ GE360.out | refine below_set ?_ GE361.out) | exact HB.out))) : w.heap.size ≤ gb362)); have n5_ := Aside0.mk ((by rw [hg]; exact (below_size (by repeat (first | (with_reducible first | exact HB.out | apply below_alloc | apply pw_below_drewN | apply below_drew1 | refine below_set ?_ GE360.out | refine below_set ?_ GE361.out) | exact HB.out))) : w.heap.size ≤ gb362)); have n6_ := Aside0.mk ((by rw [hg]; exact Nat.ne_of_lt (blk_lt (g := gb360) (o := .cells #[.int .i64 a0_0, .slice A0_1 l0_1.length c0_1] 60 (0, 0)) (by (with_reducible repeat (first | refine blk_drewN ?_ _ | refine blk_drew ?_ | refine blk_alloc ?_ _)); exact BK360.out)) : gb360 ≠ gb362)); have n7_ := Aside0.mk ((by rw [hg]; exact Nat.ne_of_gt (blk_lt (g := gb360) (o := .cells #[.int .i64 a0_0, .slice A0_1 l0_1.length c0_1] 60 (0, 0)) (by (with_reducible repeat (first | refine blk_drewN ?_ _ | refine blk_drew ?_ | refine blk_alloc ?_ _)); exact BK360.out)) : gb362 ≠ gb360)); have n8_ := Aside0.mk ((by rw [hg]; exact Nat.ne_of_lt (blk_lt (g := gb361) (o := .cells #[.int .i64 a1_0, .slice A1_1 l1_1.length c1_1] 60 (0, 0)) (by (with_reducible repeat (first | refine blk_drewN ?_ _ | refine blk_drew ?_ | refine blk_alloc ?_ _)); exact BK361.out)) : gb361 ≠ gb362)); have n9_ := Aside0.mk ((by rw [hg]; exact Nat.ne_of_gt (blk_lt (g := gb361) (o := .cells #[.int .i64 a1_0, .slice A1_1 l1_1.length c1_1] 60 (0, 0)) (by (with_reducible repeat (first | refine blk_drewN ?_ _ | refine blk_drew ?_ | refine blk_alloc ?_ _)); exact BK361.out)) : gb362 ≠ gb361)); clear BK360; clear BK361; clear HB; have BK360 := n0_; have BK361 := n1_; have HB := n2_; have BK362 := n3_; have GW362 := n4_; have GE362 := n5_; have NB360_362 := n6_; have NB362_360 := n7_; have NB361_362 := n8_; have NB362_361 := n9_; clear n0_ n1_ n2_ n3_ n4_ n5_ n6_ n7_ n8_ n9_; clear hb hbox hg; have hnb8 := NB360_361.out; have hnc8 := NB361_360.out; have hnb9 := NB360_362.out; have hnc9 := NB362_360.out; have hcz10_0 : w7.cell? ⟨gb360, 0, none⟩ = some (.int .i64 a0_0) := (blk_cell BK360.out 0).trans rfl; have hcz10_1 : w7.cell? ⟨gb360, 1, none⟩ = some (.slice A0_1 l0_1.length c0_1) := (blk_cell BK360.out 1).trans rfl; have hfz10_0 := blk_frozen BK360.out 0; have hfz10_1 := blk_frozen BK360.out 1; have hnb11 := NB361_362.out; have hnc11 := NB362_361.out; have hcz12_0 : w7.cell? ⟨gb361, 0, none⟩ = some (.int .i64 a1_0) := (blk_cell BK361.out 0).trans rfl; have hcz12_1 : w7.cell? ⟨gb361, 1, none⟩ = some (.slice A1_1 l1_1.length c1_1) := (blk_cell BK361.out 1).trans rfl; have hfz12_0 := blk_frozen BK361.out 0; have hfz12_1 := blk_frozen BK361.out 1; have hcz13_0 : w7.cell? ⟨gb362, 0, none⟩ = some (.int .i64 0) := (blk_cell BK362.out 0).trans rfl; have hcz13_1 : w7.cell? ⟨gb362, 1, none⟩ = some (.slice none 0 0) := (blk_cell BK362.out 1).trans rfl; have hfz13_0 := blk_frozen BK362.out 0; have hfz13_1 := blk_frozen BK362.out 1)); try go_wp2_with (first | ((with_reducible refine gate_dst (N := 2) rfl ?_); refine box_event ?hg (N := 2) ?hd (cs := #[.int .i64 a0_0, .slice A0_1 l0_1.length c0_1]) (t := 60) ?hr ?_; (case hd => rfl); (case hg => rfl); (case hr => first | (go_simp; done) | (go_simp; rfl)); intro gb360 hg w5 hbox hb; have n0_ := Aside0.mk (below_step (by repeat (first | (with_reducible first | exact HB.out | apply below_alloc | apply pw_below_drewN | apply below_drew1) | exact HB.out)) hb); have n1_ := Aside0.mk (hbox); have n2_ := Aside0.mk ((by rw [hg]; exact (below_size (by repeat (first | (with_reducible first | exact HB.out | apply below_alloc | apply pw_below_drewN | apply below_drew1) | exact HB.out))) : w.heap.size ≤ gb360)); have n3_ := Aside0.mk ((by rw [hg]; exact (below_size (by repeat (first | (with_reducible first | exact HB.out | apply below_alloc | apply pw_below_drewN | apply below_drew1) | exact HB.out))) : w.heap.size ≤ gb360)); clear HB; have HB := n0_; have BK360 := n1_; have GW360 := n2_; have GE360 := n3_; clear n0_ n1_ n2_ n3_; clear hb hbox hg) | ((with_reducible refine gate_dst (N := 3) rfl ?_); refine box_event ?hg (N := 3) ?hd (cs := #[.int .i64 a1_0, .slice A1_1 l1_1.length c1_1]) (t := 60) ?hr ?_; (case hd => rfl); (case hg => rfl); (case hr => first | (go_simp; done) | (go_simp; rfl)); intro gb361 hg w6 hbox hb; have n0_ := Aside0.mk (blk_below (g := gb360) (o := .cells #[.int .i64 a0_0, .slice A0_1 l0_1.length c0_1] 60 (0, 0)) (by (with_reducible repeat (first | refine blk_drewN ?_ _ | refine blk_drew ?_ | refine blk_alloc ?_ _)); exact BK360.out) hb); have n1_ := Aside0.mk (below_step (by repeat (first | (with_reducible first | exact HB.out | apply below_alloc | apply pw_below_drewN | apply below_drew1 | refine below_set ?_ GE360.out) | exact HB.out)) hb); have n2_ := Aside0.mk (hbox); have n3_ := Aside0.mk ((by rw [hg]; exact (below_size (by repeat (first | (with_reducible first | exact HB.out | apply below_alloc | apply pw_below_drewN | apply below_drew1 | refine below_set ?_ GE360.out) | exact HB.out))) : w.heap.size ≤ gb361)); have n4_ := Aside0.mk ((by rw [hg]; exact (below_size (by repeat (first | (with_reducible first | exact HB.out | apply below_alloc | apply pw_below_drewN | apply below_drew1 | refine below_set ?_ GE360.out) | exact HB.out))) : w.heap.size ≤ gb361)); have n5_ := Aside0.mk ((by rw [hg]; exact Nat.ne_of_lt (blk_lt (g := gb360) (o := .cells #[.int .i64 a0_0, .slice A0_1 l0_1.length c0_1] 60 (0, 0)) (by (with_reducible repeat (first | refine blk_drewN ?_ _ | refine blk_drew ?_ | refine blk_alloc ?_ _)); exact BK360.out)) : gb360 ≠ gb361)); have n6_ := Aside0.mk ((by rw [hg]; exact Nat.ne_of_gt (blk_lt (g := gb360) (o := .cells #[.int .i64 a0_0, .slice A0_1 l0_1.length c0_1] 60 (0, 0)) (by (with_reducible repeat (first | refine blk_drewN ?_ _ | refine blk_drew ?_ | refine blk_alloc ?_ _)); exact BK360.out)) : gb361 ≠ gb360)); clear BK360; clear HB; have BK360 := n0_; have HB := n1_; have BK361 := n2_; have GW361 := n3_; have GE361 := n4_; have NB360_361 := n5_; have NB361_360 := n6_; clear n0_ n1_ n2_ n3_ n4_ n5_ n6_; clear hb hbox hg) | ((with_reducible refine gate_dst (N := 4) rfl ?_); refine box_event ?hg (N := 4) ?hd (cs := #[.int .i64 0, .slice none 0 0]) (t := 60) ?hr ?_; (case hd => rfl); (case hg => rfl); (case hr => first | (go_simp; done) | (go_simp; rfl)); intro gb362 hg w7 hbox hb; have n0_ := Aside0.mk (blk_below (g := gb360) (o := .cells #[.int .i64 a0_0, .slice A0_1 l0_1.length c0_1] 60 (0, 0)) (by (with_reducible repeat (first | refine blk_drewN ?_ _ | refine blk_drew ?_ | refine blk_alloc ?_ _)); exact BK360.out) hb); have n1_ := Aside0.mk (blk_below (g := gb361) (o := .cells #[.int .i64 a1_0, .slice A1_1 l1_1.length c1_1] 60 (0, 0)) (by (with_reducible repeat (first | refine blk_drewN ?_ _ | refine blk_drew ?_ | refine blk_alloc ?_ _)); exact BK361.out) hb); have n2_ := Aside0.mk (below_step (by repeat (first | (with_reducible first | exact HB.out | apply below_alloc | apply pw_below_drewN | apply below_drew1 | refine below_set ?_ GE360.out | refine below_set ?_ GE361.out) | exact HB.out)) hb); have n3_ := Aside0.mk (hbox); have n4_ := Aside0.mk ((by rw [hg]; exact (below_size (by repeat (first | (with_reducible first | exact HB.out | apply below_alloc | apply pw_below_drewN | apply below_drew1 | refine below_set ?_ GE360.out | refine below_set ?_ GE361.out) | exact HB.out))) : w.heap.size ≤ gb362)); have n5_ := Aside0.mk ((by rw [hg]; exact (below_size (by repeat (first | (with_reducible first | exact HB.out | apply below_alloc | apply pw_below_drewN | apply below_drew1 | refine below_set ?_ GE360.out | refine below_set ?_ GE361.out) | exact HB.out))) : w.heap.size ≤ gb362)); have n6_ := Aside0.mk ((by rw [hg]; exact Nat.ne_of_lt (blk_lt (g := gb360) (o := .cells #[.int .i64 a0_0, .slice A0_1 l0_1.length c0_1] 60 (0, 0)) (by (with_reducible repeat (first | refine blk_drewN ?_ _ | refine blk_drew ?_ | refine blk_alloc ?_ _)); exact BK360.out)) : gb360 ≠ gb362)); have n7_ := Aside0.mk ((by rw [hg]; exact Nat.ne_of_gt (blk_lt (g := gb360) (o := .cells #[.int .i64 a0_0, .slice A0_1 l0_1.length c0_1] 60 (0, 0)) (by (with_reducible repeat (first | refine blk_drewN ?_ _ | refine blk_drew ?_ | refine blk_alloc ?_ _)); exact BK360.out)) : gb362 ≠ gb360)); have n8_ := Aside0.mk ((by rw [hg]; exact Nat.ne_of_lt (blk_lt (g := gb361) (o := .cells #[.int .i64 a1_0, .slice A1_1 l1_1.length c1_1] 60 (0, 0)) (by (with_reducible repeat (first | refine blk_drewN ?_ _ | refine blk_drew ?_ | refine blk_alloc ?_ _)); exact BK361.out)) : gb361 ≠ gb362)); have n9_ := Aside0.mk ((by rw [hg]; exact Nat.ne_of_gt (blk_lt (g := gb361) (o := .cells #[.int .i64 a1_0, .slice A1_1 l1_1.length c1_1] 60 (0, 0)) (by (with_reducible repeat (first | refine blk_drewN ?_ _ | refine blk_drew ?_ | refine blk_alloc ?_ _)); exact BK361.out)) : gb362 ≠ gb361)); clear BK360; clear BK361; clear HB; have BK360 := n0_; have BK361 := n1_; have HB := n2_; have BK362 := n3_; have GW362 := n4_; have GE362 := n5_; have NB360_362 := n6_; have NB362_360 := n7_; have NB361_362 := n8_; have NB362_361 := n9_; clear n0_ n1_ n2_ n3_ n4_ n5_ n6_ n7_ n8_ n9_; clear hb hbox hg; have hnb8 := NB360_361.out; have hnc8 := NB361_360.out; have hnb9 := NB360_362.out; have hnc9 := NB362_360.out; have hcz10_0 : w7.cell? ⟨gb360, 0, none⟩ = some (.int .i64 a0_0) := (blk_cell BK360.out 0).trans rfl; have hcz10_1 : w7.cell? ⟨gb360, 1, none⟩ = some (.slice A0_1 l0_1.length c0_1) := (blk_cell BK360.out 1).trans rfl; have hfz10_0 := blk_frozen BK360.out 0; have hfz10_1 := blk_frozen BK360.out 1; have hnb11 := NB361_362.out; have hnc11 := NB362_361.out; have hcz12_0 : w7.cell? ⟨gb361, 0, none⟩ = some (.int .i64 a1_0) := (blk_cell BK361.out 0).trans rfl; have hcz12_1 : w7.cell? ⟨gb361, 1, none⟩ = some (.slice A1_1 l1_1.length c1_1) := (blk_cell BK361.out 1).trans rfl; have hfz12_0 := blk_frozen BK361.out 0; have hfz12_1 := blk_frozen BK361.out 1; have hcz13_0 : w7.cell? ⟨gb362, 0, none⟩ = some (.int .i64 0) := (blk_cell BK362.out 0).trans rfl; have hcz13_1 : w7.cell? ⟨gb362, 1, none⟩ = some (.slice none 0 0) := (blk_cell BK362.out 1).trans rfl; have hfz13_0 := blk_frozen BK362.out 0; have hfz13_1 := blk_frozen BK362.out 1)))
   refine bodyPost_ret (results_ct rfl _ _ gb362 60 #[.int .i64 0, .slice none 0 0] (0, 0) _ rfl (by (with_reducible repeat (first | refine blk_drewN ?_ _ | refine blk_drew ?_ | refine blk_alloc ?_ _)); refine blk_put (cs := #[.int .i64 0, .slice none 0 0]) ?_ 1 _ rfl; (with_reducible repeat (first | refine blk_drewN ?_ _ | refine blk_drew ?_ | refine blk_alloc ?_ _)); refine blk_put (cs := #[.int .i64 0, .slice none 0 0]) ?_ 0 _ rfl; (with_reducible repeat (first | refine blk_drewN ?_ _ | refine blk_drew ?_ | refine blk_alloc ?_ _)); exact BK362.out) Try.underlying60 rfl (by kernel_rfl)) rfl ?_
   exact ⟨_, by first | rfl | (simp [errW_none, errW_some] <;> rfl) | (simp [*, errW_none, errW_some] <;> rfl), by first | exact Kd.R_nil _ _ _ _ _ | exact Kd.N_nil _ _ _ _ _ | exact Kd.V_nil _ _ _ _ _ | exact Kd.Q_nil _ _ _ _ _ | exact Kd.S_nil _ _ _ _ _, by repeat (first | (with_reducible first | exact HB.out | apply below_alloc | apply pw_below_drewN | apply below_drew1 | refine below_set ?_ GE360.out | refine below_set ?_ GE361.out | refine below_set ?_ GE362.out) | exact HB.out)⟩
  ·rw [if_neg c4] at H
   have c4b0 : decide ((wrap64 ((1000000000000000 : Int) / a1_0)) < a0_0) = false := decide_eq_false c4
   have c4t0 : decide ((wrap64 (Int.tdiv (1000000000000000 : Int) a1_0)) < a0_0) = false := by rw [Int.tdiv_eq_ediv_of_nonneg (by decide)]; exact c4b0
   clear c4
   have H' := Aside0.mk H
   clear H
   go_enter Try.func97, Try.ntmps97
   go_wp2_with (first | ((with_reducible refine gate_dst (N := 2) rfl ?_); refine box_event ?hg (N := 2) ?hd (cs := #[.int .i64 a0_0, .slice A0_1 l0_1.length c0_1]) (t := 60) ?hr ?_; (case hd => rfl); (case hg => rfl); (case hr => first | (go_simp; done) | (go_simp; rfl)); intro gb360 hg w14 hbox hb; have n0_ := Aside0.mk (below_step (by repeat (first | (with_reducible first | exact HB.out | apply below_alloc | apply pw_below_drewN | apply below_drew1) | exact HB.out)) hb); have n1_ := Aside0.mk (hbox); have n2_ := Aside0.mk ((by rw [hg]; exact (below_size (by repeat (first | (with_reducible first | exact HB.out | apply below_alloc | apply pw_below_drewN | apply below_drew1) | exact HB.out))) : w.heap.size ≤ gb360)); have n3_ := Aside0.mk ((by rw [hg]; exact (below_size (by repeat (first | (with_reducible first | exact HB.out | apply below_alloc | apply pw_below_drewN | apply below_drew1) | exact HB.out))) : w.heap.size ≤ gb360)); clear HB; have HB := n0_; have BK360 := n1_; have GW360 := n2_; have GE360 := n3_; clear n0_ n1_ n2_ n3_; clear hb hbox hg) | ((with_reducible refine gate_dst (N := 3) rfl ?_); refine box_event ?hg (N := 3) ?hd (cs := #[.int .i64 a1_0, .slice A1_1 l1_1.length c1_1]) (t := 60) ?hr ?_; (case hd => rfl); (case hg => rfl); (case hr => first | (go_simp; done) | (go_simp; rfl)); intro gb361 hg w15 hbox hb; have n0_ := Aside0.mk (blk_below (g := gb360) (o := .cells #[.int .i64 a0_0, .slice A0_1 l0_1.length c0_1] 60 (0, 0)) (by (with_reducible repeat (first | refine blk_drewN ?_ _ | refine blk_drew ?_ | refine blk_alloc ?_ _)); exact BK360.out) hb); have n1_ := Aside0.mk (below_step (by repeat (first | (with_reducible first | exact HB.out | apply below_alloc | apply pw_below_drewN | apply below_drew1 | refine below_set ?_ GE360.out) | exact HB.out)) hb); have n2_ := Aside0.mk (hbox); have n3_ := Aside0.mk ((by rw [hg]; exact (below_size (by repeat (first | (with_reducible first | exact HB.out | apply below_alloc | apply pw_below_drewN | apply below_drew1 | refine below_set ?_ GE360.out) | exact HB.out))) : w.heap.size ≤ gb361)); have n4_ := Aside0.mk ((by rw [hg]; exact (below_size (by repeat (first | (with_reducible first | exact HB.out | apply below_alloc | apply pw_below_drewN | apply below_drew1 | refine below_set ?_ GE360.out) | exact HB.out))) : w.heap.size ≤ gb361)); have n5_ := Aside0.mk ((by rw [hg]; exact Nat.ne_of_lt (blk_lt (g := gb360) (o := .cells #[.int .i64 a0_0, .slice A0_1 l0_1.length c0_1] 60 (0, 0)) (by (with_reducible repeat (first | refine blk_drewN ?_ _ | refine blk_drew ?_ | refine blk_alloc ?_ _)); exact BK360.out)) : gb360 ≠ gb361)); have n6_ := Aside0.mk ((by rw [hg]; exact Nat.ne_of_gt (blk_lt (g := gb360) (o := .cells #[.int .i64 a0_0, .slice A0_1 l0_1.length c0_1] 60 (0, 0)) (by (with_reducible repeat (first | refine blk_drewN ?_ _ | refine blk_drew ?_ | refine blk_alloc ?_ _)); exact BK360.out)) : gb361 ≠ gb360)); clear BK360; clear HB; have BK360 := n0_; have HB := n1_; have BK361 := n2_; have GW361 := n3_; have GE361 := n4_; have NB360_361 := n5_; have NB361_360 := n6_; clear n0_ n1_ n2_ n3_ n4_ n5_ n6_; clear hb hbox hg) | ((with_reducible refine gate_dst (N := 4) rfl ?_); refine box_event ?hg (N := 4) ?hd (cs := #[.int .i64 0, .slice none 0 0]) (t := 60) ?hr ?_; (case hd => rfl); (case hg => rfl); (case hr => first | (go_simp; done) | (go_simp; rfl)); intro gb362 hg w16 hbox hb; have n0_ := Aside0.mk (blk_below (g := gb360) (o := .cells #[.int .i64 a0_0, .slice A0_1 l0_1.length c0_1] 60 (0, 0)) (by (with_reducible repeat (first | refine blk_drewN ?_ _ | refine blk_drew ?_ | refine blk_alloc ?_ _)); exact BK360.out) hb); have n1_ := Aside0.mk (blk_below (g := gb361) (o := .cells #[.int .i64 a1_0, .slice A1_1 l1_1.length c1_1] 60 (0, 0)) (by (with_reducible repeat (first | refine blk_drewN ?_ _ | refine blk_drew ?_ | refine blk_alloc ?_ _)); exact BK361.out) hb); have n2_ := Aside0.mk (below_step (by repeat (first | (with_reducible first | exact HB.out | apply below_alloc | apply pw_below_drewN | apply below_drew1 | refine below_set ?_ GE360.out | refine below_set ?_ GE361.out) | exact HB.out)) hb); have n3_ := Aside0.mk (hbox); have n4_ := Aside0.mk ((by rw [hg]; exact (below_size (by repeat (first | (with_reducible first | exact HB.out | apply below_alloc | apply pw_below_drewN | apply below_drew1 | refine below_set ?_ GE360.out | refine below_set ?_ GE361.out) | exact HB.out))) : w.heap.size ≤ gb362)); have n5_ := Aside0.mk ((by rw [hg]; exact (below_size (by repeat (first | (with_reducible first | exact HB.out | apply below_alloc | apply pw_below_drewN | apply below_drew1 | refine below_set ?_ GE360.out | refine below_set ?_ GE361.out) | exact HB.out))) : w.heap.size ≤ gb362)); have n6_ := Aside0.mk ((by rw [hg]; exact Nat.ne_of_lt (blk_lt (g := gb360) (o := .cells #[.int .i64 a0_0, .slice A0_1 l0_1.length c0_1] 60 (0, 0)) (by (with_reducible repeat (first | refine blk_drewN ?_ _ | refine blk_drew ?_ | refine blk_alloc ?_ _)); exact BK360.out)) : gb360 ≠ gb362)); have n7_ := Aside0.mk ((by rw [hg]; exact Nat.ne_of_gt (blk_lt (g := gb360) (o := .cells #[.int .i64 a0_0, .slice A0_1 l0_1.length c0_1] 60 (0, 0)) (by (with_reducible repeat (first | refine blk_drewN ?_ _ | refine blk_drew ?_ | refine blk_alloc ?_ _)); exact BK360.out)) : gb362 ≠ gb360)); have n8_ := Aside0.mk ((by rw [hg]; exact Nat.ne_of_lt (blk_lt (g := gb361) (o := .cells #[.int .i64 a1_0, .slice A1_1 l1_1.length c1_1] 60 (0, 0)) (by (with_reducible repeat (first | refine blk_drewN ?_ _ | refine blk_drew ?_ | refine blk_alloc ?_ _)); exact BK361.out)) : gb361 ≠ gb362)); have n9_ := Aside0.mk ((by rw [hg]; exact Nat.ne_of_gt (blk_lt (g := gb361) (o := .cells #[.int .i64 a1_0, .slice A1_1 l1_1.length c1_1] 60 (0, 0)) (by (with_reducible repeat (first | refine blk_drewN ?_ _ | refine blk_drew ?_ | refine blk_alloc ?_ _)); exact BK361.out)) : gb362 ≠ gb361)); clear BK360; clear BK361; clear HB; have BK360 := n0_; have BK361 := n1_; have HB := n2_; have BK362 := n3_; have GW362 := n4_; have GE362 := n5_; have NB360_362 := n6_; have NB362_360 := n7_; have NB361_362 := n8_; have NB362_361 := n9_; clear n0_ n1_ n2_ n3_ n4_ n5_ n6_ n7_ n8_ n9_; clear hb hbox hg; have hnb17 := NB360_361.out; have hnc17 := NB361_360.out; have hnb18 := NB360_362.out; have hnc18 := NB362_360.out; have hcz19_0 : w16.cell? ⟨gb360, 0, none⟩ = some (.int .i64 a0_0) := (blk_cell BK360.out 0).trans rfl; have hcz19_1 : w16.cell? ⟨gb360, 1, none⟩ = some (.slice A0_1 l0_1.length c0_1) := (blk_cell BK360.out 1).trans rfl; have hfz19_0 := blk_frozen BK360.out 0; have hfz19_1 := blk_frozen BK360.out 1; have hnb20 := NB361_362.out; have hnc20 := NB362_361.out; have hcz21_0 : w16.cell? ⟨gb361, 0, none⟩ = some (.int .i64 a1_0) := (blk_cell BK361.out 0).trans rfl; have hcz21_1 : w16.cell? ⟨gb361, 1, none⟩ = some (.slice A1_1 l1_1.length c1_1) := (blk_cell BK361.out 1).trans rfl; have hfz21_0 := blk_frozen BK361.out 0; have hfz21_1 := blk_frozen BK361.out 1) | ((with_reducible refine gate_dst (N := 6) rfl ?_); refine box_event ?hg (N := 6) ?hd (cs := #[.int .i64 0, .slice none 0 0]) (t := 60) ?hr ?_; (case hd => rfl); (case hg => rfl); (case hr => first | (go_simp; done) | (go_simp; rfl)); intro gb363 hg w22 hbox hb; have n0_ := Aside0.mk (blk_below (g := gb360) (o := .cells #[.int .i64 a0_0, .slice A0_1 l0_1.length c0_1] 60 (0, 0)) (by (with_reducible repeat (first | refine blk_drewN ?_ _ | refine blk_drew ?_ | refine blk_alloc ?_ _)); exact BK360.out) hb); have n1_ := Aside0.mk (blk_below (g := gb361) (o := .cells #[.int .i64 a1_0, .slice A1_1 l1_1.length c1_1] 60 (0, 0)) (by (with_reducible repeat (first | refine blk_drewN ?_ _ | refine blk_drew ?_ | refine blk_alloc ?_ _)); exact BK361.out) hb); have n2_ := Aside0.mk (blk_below (g := gb362) (o := .cells #[.int .i64 0, .slice none 0 0] 60 (0, 0)) (by (with_reducible repeat (first | refine blk_drewN ?_ _ | refine blk_drew ?_ | refine blk_alloc ?_ _)); exact BK362.out) hb); have n3_ := Aside0.mk (below_step (by repeat (first | (with_reducible first | exact HB.out | apply below_alloc | apply pw_below_drewN | apply below_drew1 | refine below_set ?_ GE360.out | refine below_set ?_ GE361.out | refine below_set ?_ GE362.out) | exact HB.out)) hb); have n4_ := Aside0.mk (hbox); have n5_ := Aside0.mk ((by rw [hg]; exact (below_size (by repeat (first | (with_reducible first | exact HB.out | apply below_alloc | apply pw_below_drewN | apply below_drew1 | refine below_set ?_ GE360.out | refine below_set ?_ GE361.out | refine below_set ?_ GE362.out) | exact HB.out))) : w.heap.size ≤ gb363)); have n6_ := Aside0.mk ((by rw [hg]; exact (below_size (by repeat (first | (with_reducible first | exact HB.out | apply below_alloc | apply pw_below_drewN | apply below_drew1 | refine below_set ?_ GE360.out | refine below_set ?_ GE361.out | refine below_set ?_ GE362.out) | exact HB.out))) : w.heap.size ≤ gb363)); have n7_ := Aside0.mk ((by rw [hg]; exact Nat.ne_of_lt (blk_lt (g := gb360) (o := .cells #[.int .i64 a0_0, .slice A0_1 l0_1.length c0_1] 60 (0, 0)) (by (with_reducible repeat (first | refine blk_drewN ?_ _ | refine blk_drew ?_ | refine blk_alloc ?_ _)); exact BK360.out)) : gb360 ≠ gb363)); have n8_ := Aside0.mk ((by rw [hg]; exact Nat.ne_of_gt (blk_lt (g := gb360) (o := .cells #[.int .i64 a0_0, .slice A0_1 l0_1.length c0_1] 60 (0, 0)) (by (with_reducible repeat (first | refine blk_drewN ?_ _ | refine blk_drew ?_ | refine blk_alloc ?_ _)); exact BK360.out)) : gb363 ≠ gb360)); have n9_ := Aside0.mk ((by rw [hg]; exact Nat.ne_of_lt (blk_lt (g := gb361) (o := .cells #[.int .i64 a1_0, .slice A1_1 l1_1.length c1_1] 60 (0, 0)) (by (with_reducible repeat (first | refine blk_drewN ?_ _ | refine blk_drew ?_ | refine blk_alloc ?_ _)); exact BK361.out)) : gb361 ≠ gb363)); have n10_ := Aside0.mk ((by rw [hg]; exact Nat.ne_of_gt (blk_lt (g := gb361) (o := .cells #[.int .i64 a1_0, .slice A1_1 l1_1.length c1_1] 60 (0, 0)) (by (with_reducible repeat (first | refine blk_drewN ?_ _ | refine blk_drew ?_ | refine blk_alloc ?_ _)); exact BK361.out)) : gb363 ≠ gb361)); have n11_ := Aside0.mk ((by rw [hg]; exact Nat.ne_of_lt (blk_lt (g := gb362) (o := .cells #[.int .i64 0, .slice none 0 0] 60 (0, 0)) (by (with_reducible repeat (first | refine blk_drewN ?_ _ | refine blk_drew ?_ | refine blk_alloc ?_ _)); exact BK362.out)) : gb362 ≠ gb363)); have n12_ := Aside0.mk ((by rw [hg]; exact Nat.ne_of_gt (blk_lt (g := gb362) (o := .cells #[.int .i64 0, .slice none 0 0] 60 (0, 0)) (by (with_reducible repeat (first | refine blk_drewN ?_ _ | refine blk_drew ?_ | refine blk_alloc ?_ _)); exact BK362.out)) : gb363 ≠ gb362)); clear BK360; clear BK361; clear BK362; clear HB; have BK360 := n0_; have BK361 := n1_; have BK362 := n2_; have HB := n3_; have BK363 := n4_; have GW363 := n5_; have GE363 := n6_; have NB360_363 := n7_; have NB363_360 := n8_; have NB361_363 := n9_; have NB363_361 := n10_; have NB362_363 := n11_; have NB363_362 := n12_; clear n0_ n1_ n2_ n3_ n4_ n5_ n6_ n7_ n8_ n9_ n10_ n11_ n12_; clear hb hbox hg; have hnb23 := NB363_360.out; have hnc23 := NB360_363.out; have hnb24 := NB363_361.out; have hnc24 := NB361_363.out; have hnb25 := NB363_362.out; have hnc25 := NB362_363.out; have hcz26_0 : w22.cell? ⟨gb363, 0, none⟩ = some (.int .i64 0) := (blk_cell BK363.out 0).trans rfl; have hcz26_1 : w22.cell? ⟨gb363, 1, none⟩ = some (.slice none 0 0) := (blk_cell BK363.out 1).trans rfl; have hfz26_0 := blk_frozen BK363.out 0; have hfz26_1 := blk_frozen BK363.out 1))
   repeat (go_quiet (first | ((with_reducible refine gate_dst (N := 2) rfl ?_); refine box_event ?hg (N := 2) ?hd (cs := #[.int .i64 a0_0, .slice A0_1 l0_1.length c0_1]) (t := 60) ?hr ?_; (case hd => rfl); (case hg => rfl); (case hr => first | (go_simp; done) | (go_simp; rfl)); intro gb360 hg w14 hbox hb; have n0_ := Aside0.mk (below_step (by repeat (first | (with_reducible first | exact HB.out | apply below_alloc | apply pw_below_drewN | apply below_drew1) | exact HB.out)) hb); have n1_ := Aside0.mk (hbox); have n2_ := Aside0.mk ((by rw [hg]; exact (below_size (by repeat (first | (with_reducible first | exact HB.out | apply below_alloc | apply pw_below_drewN | apply below_drew1) | exact HB.out))) : w.heap.size ≤ gb360)); have n3_ := Aside0.mk ((by rw [hg]; exact (below_size (by repeat (first | (with_reducible first | exact HB.out | apply below_alloc | apply pw_below_drewN | apply below_drew1) | exact HB.out))) : w.heap.size ≤ gb360)); clear HB; have HB := n0_; have BK360 := n1_; have GW360 := n2_; have GE360 := n3_; clear n0_ n1_ n2_ n3_; clear hb hbox hg) | ((with_reducible refine gate_dst (N := 3) rfl ?_); refine box_event ?hg (N := 3) ?hd (cs := #[.int .i64 a1_0, .slice A1_1 l1_1.length c1_1]) (t := 60) ?hr ?_; (case hd => rfl); (case hg => rfl); (case hr => first | (go_simp; done) | (go_simp; rfl)); intro gb361 hg w15 hbox hb; have n0_ := Aside0.mk (blk_below (g := gb360) (o := .cells #[.int .i64 a0_0, .slice A0_1 l0_1.length c0_1] 60 (0, 0)) (by (with_reducible repeat (first | refine blk_drewN ?_ _ | refine blk_drew ?_ | refine blk_alloc ?_ _)); exact BK360.out) hb); have n1_ := Aside0.mk (below_step (by repeat (first | (with_reducible first | exact HB.out | apply below_alloc | apply pw_below_drewN | apply below_drew1 | refine below_set ?_ GE360.out) | exact HB.out)) hb); have n2_ := Aside0.mk (hbox); have n3_ := Aside0.mk ((by rw [hg]; exact (below_size (by repeat (first | (with_reducible first | exact HB.out | apply below_alloc | apply pw_below_drewN | apply below_drew1 | refine below_set ?_ GE360.out) | exact HB.out))) : w.heap.size ≤ gb361)); have n4_ := Aside0.mk ((by rw [hg]; exact (below_size (by repeat (first | (with_reducible first | exact HB.out | apply below_alloc | apply pw_below_drewN | apply below_drew1 | refine below_set ?_ GE360.out) | exact HB.out))) : w.heap.size ≤ gb361)); have n5_ := Aside0.mk ((by rw [hg]; exact Nat.ne_of_lt (blk_lt (g := gb360) (o := .cells #[.int .i64 a0_0, .slice A0_1 l0_1.length c0_1] 60 (0, 0)) (by (with_reducible repeat (first | refine blk_drewN ?_ _ | refine blk_drew ?_ | refine blk_alloc ?_ _)); exact BK360.out)) : gb360 ≠ gb361)); have n6_ := Aside0.mk ((by rw [hg]; exact Nat.ne_of_gt (blk_lt (g := gb360) (o := .cells #[.int .i64 a0_0, .slice A0_1 l0_1.length c0_1] 60 (0, 0)) (by (with_reducible repeat (first | refine blk_drewN ?_ _ | refine blk_drew ?_ | refine blk_alloc ?_ _)); exact BK360.out)) : gb361 ≠ gb360)); clear BK360; clear HB; have BK360 := n0_; have HB := n1_; have BK361 := n2_; have GW361 := n3_; have GE361 := n4_; have NB360_361 := n5_; have NB361_360 := n6_; clear n0_ n1_ n2_ n3_ n4_ n5_ n6_; clear hb hbox hg) | ((with_reducible refine gate_dst (N := 4) rfl ?_); refine box_event ?hg (N := 4) ?hd (cs := #[.int .i64 0, .slice none 0 0]) (t := 60) ?hr ?_; (case hd => rfl); (case hg => rfl); (case hr => first | (go_simp; done) | (go_simp; rfl)); intro gb362 hg w16 hbox hb; have n0_ := Aside0.mk (blk_below (g := gb360) (o := .cells #[.int .i64 a0_0, .slice A0_1 l0_1.length c0_1] 60 (0, 0)) (by (with_reducible repeat (first | refine blk_drewN ?_ _ | refine blk_drew ?_ | refine blk_alloc ?_ _)); exact BK360.out) hb); have n1_ := Aside0.mk (blk_below (g := gb361) (o := .cells #[.int .i64 a1_0, .slice A1_1 l1_1.length c1_1] 60 (0, 0)) (by (with_reducible repeat (first | refine blk_drewN ?_ _ | refine blk_drew ?_ | refine blk_alloc ?_ _)); exact BK361.out) hb); have n2_ := Aside0.mk (below_step (by repeat (first | (with_reducible first | exact HB.out | apply below_alloc | apply pw_below_drewN | apply below_drew1 | refine below_set ?_ GE360.out | refine below_set ?_ GE361.out) | exact HB.out)) hb); have n3_ := Aside0.mk (hbox); have n4_ := Aside0.mk ((by rw [hg]; exact (below_size (by repeat (first | (with_reducible first | exact HB.out | apply below_alloc | apply pw_below_drewN | apply below_drew1 | refine below_set ?_ GE360.out | refine below_set ?_ GE361.out) | exact HB.out))) : w.heap.size ≤ gb362)); have n5_ := Aside0.mk ((by rw [hg]; exact (below_size (by repeat (first | (with_reducible first | exact HB.out | apply below_alloc | apply pw_below_drewN | apply below_drew1 | refine below_set ?_ GE360.out | refine below_set ?_ GE361.out) | exact HB.out))) : w.heap.size ≤ gb362)); have n6_ := Aside0.mk ((by rw [hg]; exact Nat.ne_of_lt (blk_lt (g := gb360) (o := .cells #[.int .i64 a0_0, .slice A0_1 l0_1.length c0_1] 60 (0, 0)) (by (with_reducible repeat (first | refine blk_drewN ?_ _ | refine blk_drew ?_ | refine blk_alloc ?_ _)); exact BK360.out)) : gb360 ≠ gb362)); have n7_ := Aside0.mk ((by rw [hg]; exact Nat.ne_of_gt (blk_lt (g := gb360) (o := .cells #[.int .i64 a0_0, .slice A0_1 l0_1.length c0_1] 60 (0, 0)) (by (with_reducible repeat (first | refine blk_drewN ?_ _ | refine blk_drew ?_ | refine blk_alloc ?_ _)); exact BK360.out)) : gb362 ≠ gb360)); have n8_ := Aside0.mk ((by rw [hg]; exact Nat.ne_of_lt (blk_lt (g := gb361) (o := .cells #[.int .i64 a1_0, .slice A1_1 l1_1.length c1_1] 60 (0, 0)) (by (with_reducible repeat (first | refine blk_drewN ?_ _ | refine blk_drew ?_ | refine blk_alloc ?_ _)); exact BK361.out)) : gb361 ≠ gb362)); have n9_ := Aside0.mk ((by rw [hg]; exact Nat.ne_of_gt (blk_lt (g := gb361) (o := .cells #[.int .i64 a1_0, .slice A1_1 l1_1.length c1_1] 60 (0, 0)) (by (with_reducible repeat (first | refine blk_drewN ?_ _ | refine blk_drew ?_ | refine blk_alloc ?_ _)); exact BK361.out)) : gb362 ≠ gb361)); clear BK360; clear BK361; clear HB; have BK360 := n0_; have BK361 := n1_; have HB := n2_; have BK362 := n3_; have GW362 := n4_; have GE362 := n5_; have NB360_362 := n6_; have NB362_360 := n7_; have NB361_362 := n8_; have NB362_361 := n9_; clear n0_ n1_ n2_ n3_ n4_ n5_ n6_ n7_ n8_ n9_; clear hb hbox hg; have hnb17 := NB360_361.out; have hnc17 := NB361_360.out; have hnb18 := NB360_362.out; have hnc18 := NB362_360.out; have hcz19_0 : w16.cell? ⟨gb360, 0, none⟩ = some (.int .i64 a0_0) := (blk_cell BK360.out 0).trans rfl; have hcz19_1 : w16.cell? ⟨gb360, 1, none⟩ = some (.slice A0_1 l0_1.length c0_1) := (blk_cell BK360.out 1).trans rfl; have hfz19_0 := blk_frozen BK360.out 0; have hfz19_1 := blk_frozen BK360.out 1; have hnb20 := NB361_362.out; have hnc20 := NB362_361.out; have hcz21_0 : w16.cell? ⟨gb361, 0, none⟩ = some (.int .i64 a1_0) := (blk_cell BK361.out 0).trans rfl; have hcz21_1 : w16.cell? ⟨gb361, 1, none⟩ = some (.slice A1_1 l1_1.length c1_1) := (blk_cell BK361.out 1).trans rfl; have hfz21_0 := blk_frozen BK361.out 0; have hfz21_1 := blk_frozen BK361.out 1) | ((with_reducible refine gate_dst (N := 6) rfl ?_); refine box_event ?hg (N := 6) ?hd (cs := #[.int .i64 0, .slice none 0 0]) (t := 60) ?hr ?_; (case hd => rfl); (case hg => rfl); (case hr => first | (go_simp; done) | (go_simp; rfl)); intro gb363 hg w22 hbox hb; have n0_ := Aside0.mk (blk_below (g := gb360) (o := .cells #[.int .i64 a0_0, .slice A0_1 l0_1.length c0_1] 60 (0, 0)) (by (with_reducible repeat (first | refine blk_drewN ?_ _ | refine blk_drew ?_ | refine blk_alloc ?_ _)); exact BK360.out) hb); have n1_ := Aside0.mk (blk_below (g := gb361) (o := .cells #[.int .i64 a1_0, .slice A1_1 l1_1.length c1_1] 60 (0, 0)) (by (with_reducible repeat (first | refine blk_drewN ?_ _ | refine blk_drew ?_ | refine blk_alloc ?_ _)); exact BK361.out) hb); have n2_ := Aside0.mk (blk_below (g := gb362) (o := .cells #[.int .i64 0, .slice none 0 0] 60 (0, 0)) (by (with_reducible repeat (first | refine blk_drewN ?_ _ | refine blk_drew ?_ | refine blk_alloc ?_ _)); exact BK362.out) hb); have n3_ := Aside0.mk (below_step (by repeat (first | (with_reducible first | exact HB.out | apply below_alloc | apply pw_below_drewN | apply below_drew1 | refine below_set ?_ GE360.out | refine below_set ?_ GE361.out | refine below_set ?_ GE362.out) | exact HB.out)) hb); have n4_ := Aside0.mk (hbox); have n5_ := Aside0.mk ((by rw [hg]; exact (below_size (by repeat (first | (with_reducible first | exact HB.out | apply below_alloc | apply pw_below_drewN | apply below_drew1 | refine below_set ?_ GE360.out | refine below_set ?_ GE361.out | refine below_set ?_ GE362.out) | exact HB.out))) : w.heap.size ≤ gb363)); have n6_ := Aside0.mk ((by rw [hg]; exact (below_size (by repeat (first | (with_reducible first | exact HB.out | apply below_alloc | apply pw_below_drewN | apply below_drew1 | refine below_set ?_ GE360.out | refine below_set ?_ GE361.out | refine below_set ?_ GE362.out) | exact HB.out))) : w.heap.size ≤ gb363)); have n7_ := Aside0.mk ((by rw [hg]; exact Nat.ne_of_lt (blk_lt (g := gb360) (o := .cells #[.int .i64 a0_0, .slice A0_1 l0_1.length c0_1] 60 (0, 0)) (by (with_reducible repeat (first | refine blk_drewN ?_ _ | refine blk_drew ?_ | refine blk_alloc ?_ _)); exact BK360.out)) : gb360 ≠ gb363)); have n8_ := Aside0.mk ((by rw [hg]; exact Nat.ne_of_gt (blk_lt (g := gb360) (o := .cells #[.int .i64 a0_0, .slice A0_1 l0_1.length c0_1] 60 (0, 0)) (by (with_reducible repeat (first | refine blk_drewN ?_ _ | refine blk_drew ?_ | refine blk_alloc ?_ _)); exact BK360.out)) : gb363 ≠ gb360)); have n9_ := Aside0.mk ((by rw [hg]; exact Nat.ne_of_lt (blk_lt (g := gb361) (o := .cells #[.int .i64 a1_0, .slice A1_1 l1_1.length c1_1] 60 (0, 0)) (by (with_reducible repeat (first | refine blk_drewN ?_ _ | refine blk_drew ?_ | refine blk_alloc ?_ _)); exact BK361.out)) : gb361 ≠ gb363)); have n10_ := Aside0.mk ((by rw [hg]; exact Nat.ne_of_gt (blk_lt (g := gb361) (o := .cells #[.int .i64 a1_0, .slice A1_1 l1_1.length c1_1] 60 (0, 0)) (by (with_reducible repeat (first | refine blk_drewN ?_ _ | refine blk_drew ?_ | refine blk_alloc ?_ _)); exact BK361.out)) : gb363 ≠ gb361)); have n11_ := Aside0.mk ((by rw [hg]; exact Nat.ne_of_lt (blk_lt (g := gb362) (o := .cells #[.int .i64 0, .slice none 0 0] 60 (0, 0)) (by (with_reducible repeat (first | refine blk_drewN ?_ _ | refine blk_drew ?_ | refine blk_alloc ?_ _)); exact BK362.out)) : gb362 ≠ gb363)); have n12_ := Aside0.mk ((by rw [hg]; exact Nat.ne_of_gt (blk_lt (g := gb362) (o := .cells #[.int .i64 0, .slice none 0 0] 60 (0, 0)) (by (with_reducible repeat (first | refine blk_drewN ?_ _ | refine blk_drew ?_ | refine blk_alloc ?_ _)); exact BK362.out)) : gb363 ≠ gb362)); clear BK360; clear BK361; clear BK362; clear HB; have BK360 := n0_; have BK361 := n1_; have BK362 := n2_; have HB := n3_; have BK363 := n4_; have GW363 := n5_; have GE363 := n6_; have NB360_363 := n7_; have NB363_360 := n8_; have NB361_363 := n9_; have NB363_361 := n10_; have NB362_363 := n11_; have NB363_362 := n12_; clear n0_ n1_ n2_ n3_ n4_ n5_ n6_ n7_ n8_ n9_ n10_ n11_ n12_; clear hb hbox hg; have hnb23 := NB363_360.out; have hnc23 := NB360_363.out; have hnb24 := NB363_361.out; have hnc24 := NB361_363.out; have hnb25 := NB363_362.out; have hnc25 := NB362_363.out; have hcz26_0 : w22.cell? ⟨gb363, 0, none⟩ = some (.int .i64 0) := (blk_cell BK363.out 0).trans rfl; have hcz26_1 : w22.cell? ⟨gb363, 1, none⟩ = some (.slice none 0 0) := (blk_cell BK363.out 1).trans rfl; have hfz26_0 := blk_frozen BK363.out 0; have hfz26_1 := blk_frozen BK363.out 1)); try go_wp2_with (first | ((with_reducible refine gate_dst (N := 2) rfl ?_); refine box_event ?hg (N := 2) ?hd (cs := #[.int .i64 a0_0, .slice A0_1 l0_1.length c0_1]) (t := 60) ?hr ?_; (case hd => rfl); (case hg => rfl); (case hr => first | (go_simp; done) | (go_simp; rfl)); intro gb360 hg w14 hbox hb; have n0_ := Aside0.mk (below_step (by repeat (first | (with_reducible first | exact HB.out | apply below_alloc | apply pw_below_drewN | apply below_drew1) | exact HB.out)) hb); have n1_ := Aside0.mk (hbox); have n2_ := Aside0.mk ((by rw [hg]; exact (below_size (by repeat (first | (with_reducible first | exact HB.out | apply below_alloc | apply pw_below_drewN | apply below_drew1) | exact HB.out))) : w.heap.size ≤ gb360)); have n3_ := Aside0.mk ((by rw [hg]; exact (below_size (by repeat (first | (with_reducible first | exact HB.out | apply below_alloc | apply pw_below_drewN | apply below_drew1) | exact HB.out))) : w.heap.size ≤ gb360)); clear HB; have HB := n0_; have BK360 := n1_; have GW360 := n2_; have GE360 := n3_; clear n0_ n1_ n2_ n3_; clear hb hbox hg) | ((with_reducible refine gate_dst (N := 3) rfl ?_); refine box_event ?hg (N := 3) ?hd (cs := #[.int .i64 a1_0, .slice A1_1 l1_1.length c1_1]) (t := 60) ?hr ?_; (case hd => rfl); (case hg => rfl); (case hr => first | (go_simp; done) | (go_simp; rfl)); intro gb361 hg w15 hbox hb; have n0_ := Aside0.mk (blk_below (g := gb360) (o := .cells #[.int .i64 a0_0, .slice A0_1 l0_1.length c0_1] 60 (0, 0)) (by (with_reducible repeat (first | refine blk_drewN ?_ _ | refine blk_drew ?_ | refine blk_alloc ?_ _)); exact BK360.out) hb); have n1_ := Aside0.mk (below_step (by repeat (first | (with_reducible first | exact HB.out | apply below_alloc | apply pw_below_drewN | apply below_drew1 | refine below_set ?_ GE360.out) | exact HB.out)) hb); have n2_ := Aside0.mk (hbox); have n3_ := Aside0.mk ((by rw [hg]; exact (below_size (by repeat (first | (with_reducible first | exact HB.out | apply below_alloc | apply pw_below_drewN | apply below_drew1 | refine below_set ?_ GE360.out) | exact HB.out))) : w.heap.size ≤ gb361)); have n4_ := Aside0.mk ((by rw [hg]; exact (below_size (by repeat (first | (with_reducible first | exact HB.out | apply below_alloc | apply pw_below_drewN | apply below_drew1 | refine below_set ?_ GE360.out) | exact HB.out))) : w.heap.size ≤ gb361)); have n5_ := Aside0.mk ((by rw [hg]; exact Nat.ne_of_lt (blk_lt (g := gb360) (o := .cells #[.int .i64 a0_0, .slice A0_1 l0_1.length c0_1] 60 (0, 0)) (by (with_reducible repeat (first | refine blk_drewN ?_ _ | refine blk_drew ?_ | refine blk_alloc ?_ _)); exact BK360.out)) : gb360 ≠ gb361)); have n6_ := Aside0.mk ((by rw [hg]; exact Nat.ne_of_gt (blk_lt (g := gb360) (o := .cells #[.int .i64 a0_0, .slice A0_1 l0_1.length c0_1] 60 (0, 0)) (by (with_reducible repeat (first | refine blk_drewN ?_ _ | refine blk_drew ?_ | refine blk_alloc ?_ _)); exact BK360.out)) : gb361 ≠ gb360)); clear BK360; clear HB; have BK360 := n0_; have HB := n1_; have BK361 := n2_; have GW361 := n3_; have GE361 := n4_; have NB360_361 := n5_; have NB361_360 := n6_; clear n0_ n1_ n2_ n3_ n4_ n5_ n6_; clear hb hbox hg) | ((with_reducible refine gate_dst (N := 4) rfl ?_); refine box_event ?hg (N := 4) ?hd (cs := #[.int .i64 0, .slice none 0 0]) (t := 60) ?hr ?_; (case hd => rfl); (case hg => rfl); (case hr => first | (go_simp; done) | (go_simp; rfl)); intro gb362 hg w16 hbox hb; have n0_ := Aside0.mk (blk_below (g := gb360) (o := .cells #[.int .i64 a0_0, .slice A0_1 l0_1.length c0_1] 60 (0, 0)) (by (with_reducible repeat (first | refine blk_drewN ?_ _ | refine blk_drew ?_ | refine blk_alloc ?_ _)); exact BK360.out) hb); have n1_ := Aside0.mk (blk_below (g := gb361) (o := .cells #[.int .i64 a1_0, .slice A1_1 l1_1.length c1_1] 60 (0, 0)) (by (with_reducible repeat (first | refine blk_drewN ?_ _ | refine blk_drew ?_ | refine blk_alloc ?_ _)); exact BK361.out) hb); have n2_ := Aside0.mk (below_step (by repeat (first | (with_reducible first | exact HB.out | apply below_alloc | apply pw_below_drewN | apply below_drew1 | refine below_set ?_ GE360.out | refine below_set ?_ GE361.out) | exact HB.out)) hb); have n3_ := Aside0.mk (hbox); have n4_ := Aside0.mk ((by rw [hg]; exact (below_size (by repeat (first | (with_reducible first | exact HB.out | apply below_alloc | apply pw_below_drewN | apply below_drew1 | refine below_set ?_ GE360.out | refine below_set ?_ GE361.out) | exact HB.out))) : w.heap.size ≤ gb362)); have n5_ := Aside0.mk ((by rw [hg]; exact (below_size (by repeat (first | (with_reducible first | exact HB.out | apply below_alloc | apply pw_below_drewN | apply below_drew1 | refine below_set ?_ GE360.out | refine below_set ?_ GE361.out) | exact HB.out))) : w.heap.size ≤ gb362)); have n6_ := Aside0.mk ((by rw [hg]; exact Nat.ne_of_lt (blk_lt (g := gb360) (o := .cells #[.int .i64 a0_0, .slice A0_1 l0_1.length c0_1] 60 (0, 0)) (by (with_reducible repeat (first | refine blk_drewN ?_ _ | refine blk_drew ?_ | refine blk_alloc ?_ _)); exact BK360.out)) : gb360 ≠ gb362)); have n7_ := Aside0.mk ((by rw [hg]; exact Nat.ne_of_gt (blk_lt (g := gb360) (o := .cells #[.int .i64 a0_0, .slice A0_1 l0_1.length c0_1] 60 (0, 0)) (by (with_reducible repeat (first | refine blk_drewN ?_ _ | refine blk_drew ?_ | refine blk_alloc ?_ _)); exact BK360.out)) : gb362 ≠ gb360)); have n8_ := Aside0.mk ((by rw [hg]; exact Nat.ne_of_lt (blk_lt (g := gb361) (o := .cells #[.int .i64 a1_0, .slice A1_1 l1_1.length c1_1] 60 (0, 0)) (by (with_reducible repeat (first | refine blk_drewN ?_ _ | refine blk_drew ?_ | refine blk_alloc ?_ _)); exact BK361.out)) : gb361 ≠ gb362)); have n9_ := Aside0.mk ((by rw [hg]; exact Nat.ne_of_gt (blk_lt (g := gb361) (o := .cells #[.int .i64 a1_0, .slice A1_1 l1_1.length c1_1] 60 (0, 0)) (by (with_reducible repeat (first | refine blk_drewN ?_ _ | refine blk_drew ?_ | refine blk_alloc ?_ _)); exact BK361.out)) : gb362 ≠ gb361)); clear BK360; clear BK361; clear HB; have BK360 := n0_; have BK361 := n1_; have HB := n2_; have BK362 := n3_; have GW362 := n4_; have GE362 := n5_; have NB360_362 := n6_; have NB362_360 := n7_; have NB361_362 := n8_; have NB362_361 := n9_; clear n0_ n1_ n2_ n3_ n4_ n5_ n6_ n7_ n8_ n9_; clear hb hbox hg; have hnb17 := NB360_361.out; have hnc17 := NB361_360.out; have hnb18 := NB360_362.out; have hnc18 := NB362_360.out; have hcz19_0 : w16.cell? ⟨gb360, 0, none⟩ = some (.int .i64 a0_0) := (blk_cell BK360.out 0).trans rfl; have hcz19_1 : w16.cell? ⟨gb360, 1, none⟩ = some (.slice A0_1 l0_1.length c0_1) := (blk_cell BK360.out 1).trans rfl; have hfz19_0 := blk_frozen BK360.out 0; have hfz19_1 := blk_frozen BK360.out 1; have hnb20 := NB361_362.out; have hnc20 := NB362_361.out; have hcz21_0 : w16.cell? ⟨gb361, 0, none⟩ = some (.int .i64 a1_0) := (blk_cell BK361.out 0).trans rfl; have hcz21_1 : w16.cell? ⟨gb361, 1, none⟩ = some (.slice A1_1 l1_1.length c1_1) := (blk_cell BK361.out 1).trans rfl; have hfz21_0 := blk_frozen BK361.out 0; have hfz21_1 := blk_frozen BK361.out 1) | ((with_reducible refine gate_dst (N := 6) rfl ?_); refine box_event ?hg (N := 6) ?hd (cs := #[.int .i64 0, .slice none 0 0]) (t := 60) ?hr ?_; (case hd => rfl); (case hg => rfl); (case hr => first | (go_simp; done) | (go_simp; rfl)); intro gb363 hg w22 hbox hb; have n0_ := Aside0.mk (blk_below (g := gb360) (o := .cells #[.int .i64 a0_0, .slice A0_1 l0_1.length c0_1] 60 (0, 0)) (by (with_reducible repeat (first | refine blk_drewN ?_ _ | refine blk_drew ?_ | refine blk_alloc ?_ _)); exact BK360.out) hb); have n1_ := Aside0.mk (blk_below (g := gb361) (o := .cells #[.int .i64 a1_0, .slice A1_1 l1_1.length c1_1] 60 (0, 0)) (by (with_reducible repeat (first | refine blk_drewN ?_ _ | refine blk_drew ?_ | refine blk_alloc ?_ _)); exact BK361.out) hb); have n2_ := Aside0.mk (blk_below (g := gb362) (o := .cells #[.int .i64 0, .slice none 0 0] 60 (0, 0)) (by (with_reducible repeat (first | refine blk_drewN ?_ _ | refine blk_drew ?_ | refine blk_alloc ?_ _)); exact BK362.out) hb); have n3_ := Aside0.mk (below_step (by repeat (first | (with_reducible first | exact HB.out | apply below_alloc | apply pw_below_drewN | apply below_drew1 | refine below_set ?_ GE360.out | refine below_set ?_ GE361.out | refine below_set ?_ GE362.out) | exact HB.out)) hb); have n4_ := Aside0.mk (hbox); have n5_ := Aside0.mk ((by rw [hg]; exact (below_size (by repeat (first | (with_reducible first | exact HB.out | apply below_alloc | apply pw_below_drewN | apply below_drew1 | refine below_set ?_ GE360.out | refine below_set ?_ GE361.out | refine below_set ?_ GE362.out) | exact HB.out))) : w.heap.size ≤ gb363)); have n6_ := Aside0.mk ((by rw [hg]; exact (below_size (by repeat (first | (with_reducible first | exact HB.out | apply below_alloc | apply pw_below_drewN | apply below_drew1 | refine below_set ?_ GE360.out | refine below_set ?_ GE361.out | refine below_set ?_ GE362.out) | exact HB.out))) : w.heap.size ≤ gb363)); have n7_ := Aside0.mk ((by rw [hg]; exact Nat.ne_of_lt (blk_lt (g := gb360) (o := .cells #[.int .i64 a0_0, .slice A0_1 l0_1.length c0_1] 60 (0, 0)) (by (with_reducible repeat (first | refine blk_drewN ?_ _ | refine blk_drew ?_ | refine blk_alloc ?_ _)); exact BK360.out)) : gb360 ≠ gb363)); have n8_ := Aside0.mk ((by rw [hg]; exact Nat.ne_of_gt (blk_lt (g := gb360) (o := .cells #[.int .i64 a0_0, .slice A0_1 l0_1.length c0_1] 60 (0, 0)) (by (with_reducible repeat (first | refine blk_drewN ?_ _ | refine blk_drew ?_ | refine blk_alloc ?_ _)); exact BK360.out)) : gb363 ≠ gb360)); have n9_ := Aside0.mk ((by rw [hg]; exact Nat.ne_of_lt (blk_lt (g := gb361) (o := .cells #[.int .i64 a1_0, .slice A1_1 l1_1.length c1_1] 60 (0, 0)) (by (with_reducible repeat (first | refine blk_drewN ?_ _ | refine blk_drew ?_ | refine blk_alloc ?_ _)); exact BK361.out)) : gb361 ≠ gb363)); have n10_ := Aside0.mk ((by rw [hg]; exact Nat.ne_of_gt (blk_lt (g := gb361) (o := .cells #[.int .i64 a1_0, .slice A1_1 l1_1.length c1_1] 60 (0, 0)) (by (with_reducible repeat (first | refine blk_drewN ?_ _ | refine blk_drew ?_ | refine blk_alloc ?_ _)); exact BK361.out)) : gb363 ≠ gb361)); have n11_ := Aside0.mk ((by rw [hg]; exact Nat.ne_of_lt (blk_lt (g := gb362) (o := .cells #[.int .i64 0, .slice none 0 0] 60 (0, 0)) (by (with_reducible repeat (first | refine blk_drewN ?_ _ | refine blk_drew ?_ | refine blk_alloc ?_ _)); exact BK362.out)) : gb362 ≠ gb363)); have n12_ := Aside0.mk ((by rw [hg]; exact Nat.ne_of_gt (blk_lt (g := gb362) (o := .cells #[.int .i64 0, .slice none 0 0] 60 (0, 0)) (by (with_reducible repeat (first | refine blk_drewN ?_ _ | refine blk_drew ?_ | refine blk_alloc ?_ _)); exact BK362.out)) : gb363 ≠ gb362)); clear BK360; clear BK361; clear BK362; clear HB; have BK360 := n0_; have BK361 := n1_; have BK362 := n2_; have HB := n3_; have BK363 := n4_; have GW363 := n5_; have GE363 := n6_; have NB360_363 := n7_; have NB363_360 := n8_; have NB361_363 := n9_; have NB363_361 := n10_; have NB362_363 := n11_; have NB363_362 := n12_; clear n0_ n1_ n2_ n3_ n4_ n5_ n6_ n7_ n8_ n9_ n10_ n11_ n12_; clear hb hbox hg; have hnb23 := NB363_360.out; have hnc23 := NB360_363.out; have hnb24 := NB363_361.out; have hnc24 := NB361_363.out; have hnb25 := NB363_362.out; have hnc25 := NB362_363.out; have hcz26_0 : w22.cell? ⟨gb363, 0, none⟩ = some (.int .i64 0) := (blk_cell BK363.out 0).trans rfl; have hcz26_1 : w22.cell? ⟨gb363, 1, none⟩ = some (.slice none 0 0) := (blk_cell BK363.out 1).trans rfl; have hfz26_0 := blk_frozen BK363.out 0; have hfz26_1 := blk_frozen BK363.out 1)))
   go_loopg [7] k (fun kq v7 w' => ∃ (x7_1 : Int) (x363000_1 : Int) (x364001_1 : List Int) (u364001 : Value), v7 = .int .i64 x7_1 ∧ Aside0 (tenetref24_times.l0 kq x7_1 a0_0 l0_1 a1_0 l1_1 (wrap64 (a0_0 * a1_0)) x364001_1 = some (r1, r2, r3)) ∧ Aside0 (kq ≤ k) ∧ Aside0 (Kd.R (Kd.int .i64) 3 w' w.heap.size (fun _ => True) u364001 x364001_1) ∧ Aside0 (w'.heap[gb360]? = some (.cells #[.int .i64 a0_0, (.slice A0_1 l0_1.length c0_1)] 60 (0, 0))) ∧ Aside0 (w'.heap[gb361]? = some (.cells #[.int .i64 a1_0, (.slice A1_1 l1_1.length c1_1)] 60 (0, 0))) ∧ Aside0 (w'.heap[gb362]? = some (.cells #[.int .i64 x363000_1, (.slice none 0 0)] 60 (0, 0))) ∧ Aside0 (w'.heap[gb363]? = some (.cells #[.int .i64 (wrap64 (a0_0 * a1_0)), u364001] 60 (0, 0))) ∧ Aside0 (Below w.heap.size w w'))
   case atStart => exact ⟨(0), (0), (([] : List Int)), (.slice none 0 0), (by first | rfl | (simp; done) | (simp [*]; done)), H', ⟨Nat.le_refl _⟩, ⟨by first | exact Kd.R_nil _ _ _ _ _ | exact Kd.N_nil _ _ _ _ _ | exact Kd.V_nil _ _ _ _ _ | exact Kd.Q_nil _ _ _ _ _ | exact Kd.S_nil _ _ _ _ _⟩, ⟨by (with_reducible repeat (first | refine blk_drewN ?_ _ | refine blk_drew ?_ | refine blk_alloc ?_ _)); refine blk_far ?_ NB360_363.out _; (with_reducible repeat (first | refine blk_drewN ?_ _ | refine blk_drew ?_ | refine blk_alloc ?_ _)); refine blk_far ?_ NB360_363.out _; (with_reducible repeat (first | refine blk_drewN ?_ _ | refine blk_drew ?_ | refine blk_alloc ?_ _)); exact BK360.out⟩, ⟨by (with_reducible repeat (first | refine blk_drewN ?_ _ | refine blk_drew ?_ | refine blk_alloc ?_ _)); refine blk_far ?_ NB361_363.out _; (with_reducible repeat (first | refine blk_drewN ?_ _ | refine blk_drew ?_ | refine blk_alloc ?_ _)); refine blk_far ?_ NB361_363.out _; (with_reducible repeat (first | refine blk_drewN ?_ _ | refine blk_drew ?_ | refine blk_alloc ?_ _)); exact BK361.out⟩, ⟨by (with_reducible repeat (first | refine blk_drewN ?_ _ | refine blk_drew ?_ | refine blk_alloc ?_ _)); refine blk_far ?_ NB362_363.out _; (with_reducible repeat (first | refine blk_drewN ?_ _ | refine blk_drew ?_ | refine blk_alloc ?_ _)); refine blk_far ?_ NB362_363.out _; (with_reducible repeat (first | refine blk_drewN ?_ _ | refine blk_drew ?_ | refine blk_alloc ?_ _)); exact BK362.out⟩, ⟨by (with_reducible repeat (first | refine blk_drewN ?_ _ | refine blk_drew ?_ | refine blk_alloc ?_ _)); refine blk_put (cs := #[.int .i64 (wrap64 (a0_0 * a1_0)), .slice none 0 0]) ?_ 1 _ rfl; (with_reducible repeat (first | refine blk_drewN ?_ _ | refine blk_drew ?_ | refine blk_alloc ?_ _)); refine blk_put (cs := #[.int .i64 0, .slice none 0 0]) ?_ 0 _ rfl; (with_reducible repeat (first | refine blk_drewN ?_ _ | refine blk_drew ?_ | refine blk_alloc ?_ _)); exact BK363.out⟩, ⟨by repeat (first | (with_reducible first | exact HB.out | apply below_alloc | apply pw_below_drewN | apply below_drew1 | refine below_set ?_ GE360.out | refine below_set ?_ GE361.out | refine below_set ?_ GE362.out | refine below_set ?_ GE363.out) | exact HB.out)⟩⟩
   case round =>
    clear H'
    try clear c1
    try clear c2
    try clear p2
    try clear c3
    try clear c3b0
    try clear c3b1
    try clear c4
    try clear c4b0
    try clear p6
    try clear c8
    try clear c9
    try clear c11
    try clear c17
    try clear c18
    try clear c20
    try clear c23
    try clear c24
    try clear c25
    try clear hcz10_0
    try clear hcz10_1
    try clear hcz12_0
    try clear hcz12_1
    try clear hcz13_0
    try clear hcz13_1
    try clear hcz19_0
    try clear hcz19_1
    try clear hcz21_0
    try clear hcz21_1
    try clear hcz26_0
    try clear hcz26_1
    try clear hfz10_0
    try clear hfz10_1
    try clear hfz12_0
    try clear hfz12_1
    try clear hfz13_0
    try clear hfz13_1
    try clear hfz19_0
    try clear hfz19_1
    try clear hfz21_0
    try clear hfz21_1
    try clear hfz26_0
    try clear hfz26_1
    obtain ⟨x7_1, x363000_1, x364001_1, u364001, rfl, HA, HK1, HO_364001, BK360, BK361, BK362, BK363, HB⟩ := hrel
    cases gk with
    | zero => exact absurd HA.out (by simp [tenetref24_times.l0])
    | succ k1 =>
     have H := HA.out
     clear HA
     simp only [tenetref24_times.l0] at H
     by_cases c27 : x7_1 < 8
     ·rw [if_pos c27] at H
      have c27b0 : decide (x7_1 < 8) = true := decide_eq_true c27
      clear c27
      by_cases c28 : 0 ≤ x7_1
      ·rw [if_pos c28] at H
       have c28b0 : decide (0 ≤ x7_1) = true := decide_eq_true c28
       clear c28
       by_cases c29 : x7_1 < (l0_1.length : Int)
       ·rw [if_pos c29] at H
        have c29b0 : decide (x7_1 < (l0_1.length : Int)) = true := decide_eq_true c29
        clear c29
        by_cases c30 : x7_1 < (l1_1.length : Int)
        ·rw [if_pos c30] at H
         have c30b0 : decide (x7_1 < (l1_1.length : Int)) = true := decide_eq_true c30
         clear c30
         by_cases c31 : (wrap64 ((rd l0_1 x7_1) + (rd l1_1 x7_1))) > 60
         ·rw [if_pos c31] at H
          have c31b0 : decide (60 < (wrap64 ((rd l0_1 x7_1) + (rd l1_1 x7_1)))) = true := decide_eq_true c31
          clear c31
          simp only [Option.some.injEq, Prod.mk.injEq] at H
          obtain ⟨rfl, rfl, rfl⟩ := H
          have hnb32 := NB360_361.out
          have hnc32 := NB361_360.out
          have hnb33 := NB360_362.out
          have hnc33 := NB362_360.out
          have hnb34 := NB360_363.out
          have hnc34 := NB363_360.out
          have hcz35_0 : wr.cell? ⟨gb360, 0, none⟩ = some (.int .i64 a0_0) := (blk_cell BK360.out 0).trans rfl
          have hcz35_1 : wr.cell? ⟨gb360, 1, none⟩ = some (.slice A0_1 l0_1.length c0_1) := (blk_cell BK360.out 1).trans rfl
          have hfz35_0 := blk_frozen BK360.out 0
          have hfz35_1 := blk_frozen BK360.out 1
          have p364 : 0 ≤ (x7_1 : Int) := of_decide_eq_true (by first | (with_reducible assumption) | assumption)
          have q364 : x7_1 < (l0_1.length : Int) := of_decide_eq_true (by first | (with_reducible assumption) | assumption)
          obtain ⟨ad364, e364, hx364_0⟩ := Kd.at_int HR0_1.out x7_1 p364 q364
          cases e364
          replace hx364_0 := (HB.out.cell (World.block_lt_of_cell? w _ hx364_0)).trans hx364_0
          replace p364 := eq_true p364
          replace q364 := eq_true q364
          have hnb36 := NB361_362.out
          have hnc36 := NB362_361.out
          have hnb37 := NB361_363.out
          have hnc37 := NB363_361.out
          have hcz38_0 : wr.cell? ⟨gb361, 0, none⟩ = some (.int .i64 a1_0) := (blk_cell BK361.out 0).trans rfl
          have hcz38_1 : wr.cell? ⟨gb361, 1, none⟩ = some (.slice A1_1 l1_1.length c1_1) := (blk_cell BK361.out 1).trans rfl
          have hfz38_0 := blk_frozen BK361.out 0
          have hfz38_1 := blk_frozen BK361.out 1
          have p365 : 0 ≤ (x7_1 : Int) := of_decide_eq_true (by first | (with_reducible assumption) | assumption)
          have q365 : x7_1 < (l1_1.length : Int) := of_decide_eq_true (by first | (with_reducible assumption) | assumption)
          obtain ⟨ad365, e365, hx365_0⟩ := Kd.at_int HR1_1.out x7_1 p365 q365
          cases e365
          replace hx365_0 := (HB.out.cell (World.block_lt_of_cell? w _ hx365_0)).trans hx365_0
          replace p365 := eq_true p365
          replace q365 := eq_true q365
          have hnb39 := NB362_363.out
          have hnc39 := NB363_362.out
          have hcz40_0 : wr.cell? ⟨gb362, 0, none⟩ = some (.int .i64 x363000_1) := (blk_cell BK362.out 0).trans rfl
          have hcz40_1 : wr.cell? ⟨gb362, 1, none⟩ = some (.slice none 0 0) := (blk_cell BK362.out 1).trans rfl
          have hfz40_0 := blk_frozen BK362.out 0
          have hfz40_1 := blk_frozen BK362.out 1
          go_wp2
          repeat (go_quiet (fail); try go_wp2)
          refine bodyPost_ret (results_ct rfl _ _ gb362 60 #[.int .i64 0, .slice none 0 0] (0, 0) _ rfl (by (with_reducible repeat (first | refine blk_drewN ?_ _ | refine blk_drew ?_ | refine blk_alloc ?_ _)); refine blk_put (cs := #[.int .i64 0, .slice none 0 0]) ?_ 1 _ rfl; (with_reducible repeat (first | refine blk_drewN ?_ _ | refine blk_drew ?_ | refine blk_alloc ?_ _)); refine blk_put (cs := #[.int .i64 x363000_1, .slice none 0 0]) ?_ 0 _ rfl; (with_reducible repeat (first | refine blk_drewN ?_ _ | refine blk_drew ?_ | refine blk_alloc ?_ _)); exact BK362.out) Try.underlying60 rfl (by kernel_rfl)) rfl ?_
          exact ⟨_, by first | rfl | (simp [errW_none, errW_some] <;> rfl) | (simp [*, errW_none, errW_some] <;> rfl), by first | exact Kd.R_nil _ _ _ _ _ | exact Kd.N_nil _ _ _ _ _ | exact Kd.V_nil _ _ _ _ _ | exact Kd.Q_nil _ _ _ _ _ | exact Kd.S_nil _ _ _ _ _, by repeat (first | (with_reducible first | exact HB.out | apply below_alloc | apply pw_below_drewN | apply below_drew1 | refine below_set ?_ GE360.out | refine below_set ?_ GE361.out | refine below_set ?_ GE362.out | refine below_set ?_ GE363.out) | exact HB.out)⟩
         ·rw [if_neg c31] at H
          have c31b0 : decide (60 < (wrap64 ((rd l0_1 x7_1) + (rd l1_1 x7_1)))) = false := decide_eq_false c31
          clear c31
          by_cases c41 : x364001_1.length < 17592186044416
          ·rw [if_pos c41] at H
           have LMc41 := Aside0.mk c41
           clear c41
           obtain ⟨y366, hy366⟩ : ∃ y_ : List Int, y_ = (x364001_1 ++ [wrap64 ((rd l0_1 x7_1) + (rd l1_1 x7_1))]) := ⟨_, rfl⟩
           replace H : (tenetref24_times.l0 k1 (wrap64 (x7_1 + 1)) a0_0 l0_1 a1_0 l1_1 (wrap64 (a0_0 * a1_0)) y366) = some (r1, r2, r3) := by first | (rw [hy366]; with_reducible exact H) | (have H2_ := (Option.bind_some _ _).symm.trans H; rw [hy366]; with_reducible exact H2_) | (have H2_ := (Option.bind_some _ _).symm.trans H; with_reducible exact H2_) | with_reducible exact H | (rw [hy366]; exact H) | exact H
           have Ny366 := Aside0.mk hy366
           clear hy366
           have H' := Aside0.mk H
           clear H
           have hnb42 := NB360_361.out
           have hnc42 := NB361_360.out
           have hnb43 := NB360_362.out
           have hnc43 := NB362_360.out
           have hnb44 := NB360_363.out
           have hnc44 := NB363_360.out
           have hcz45_0 : wr.cell? ⟨gb360, 0, none⟩ = some (.int .i64 a0_0) := (blk_cell BK360.out 0).trans rfl
           have hcz45_1 : wr.cell? ⟨gb360, 1, none⟩ = some (.slice A0_1 l0_1.length c0_1) := (blk_cell BK360.out 1).trans rfl
           have hfz45_0 := blk_frozen BK360.out 0
           have hfz45_1 := blk_frozen BK360.out 1
           have p364 : 0 ≤ (x7_1 : Int) := of_decide_eq_true (by first | (with_reducible assumption) | assumption)
           have q364 : x7_1 < (l0_1.length : Int) := of_decide_eq_true (by first | (with_reducible assumption) | assumption)
           obtain ⟨ad364, e364, hx364_0⟩ := Kd.at_int HR0_1.out x7_1 p364 q364
           cases e364
           replace hx364_0 := (HB.out.cell (World.block_lt_of_cell? w _ hx364_0)).trans hx364_0
           replace p364 := eq_true p364
           replace q364 := eq_true q364
           have hnb46 := NB361_362.out
           have hnc46 := NB362_361.out
           have hnb47 := NB361_363.out
           have hnc47 := NB363_361.out
           have hcz48_0 : wr.cell? ⟨gb361, 0, none⟩ = some (.int .i64 a1_0) := (blk_cell BK361.out 0).trans rfl
           have hcz48_1 : wr.cell? ⟨gb361, 1, none⟩ = some (.slice A1_1 l1_1.length c1_1) := (blk_cell BK361.out 1).trans rfl
           have hfz48_0 := blk_frozen BK361.out 0
           have hfz48_1 := blk_frozen BK361.out 1
           have p365 : 0 ≤ (x7_1 : Int) := of_decide_eq_true (by first | (with_reducible assumption) | assumption)
           have q365 : x7_1 < (l1_1.length : Int) := of_decide_eq_true (by first | (with_reducible assumption) | assumption)
           obtain ⟨ad365, e365, hx365_0⟩ := Kd.at_int HR1_1.out x7_1 p365 q365
           cases e365
           replace hx365_0 := (HB.out.cell (World.block_lt_of_cell? w _ hx365_0)).trans hx365_0
           replace p365 := eq_true p365
           replace q365 := eq_true q365
           have hnb49 := NB363_362.out
           have hnc49 := NB362_363.out
           have hcz50_0 : wr.cell? ⟨gb363, 0, none⟩ = some (.int .i64 (wrap64 (a0_0 * a1_0))) := (blk_cell BK363.out 0).trans rfl
           have hcz50_1 : wr.cell? ⟨gb363, 1, none⟩ = some (u364001) := (blk_cell BK363.out 1).trans rfl
           have hfz50_0 := blk_frozen BK363.out 0
           have hfz50_1 := blk_frozen BK363.out 1
           go_wp2_with (first | ((with_reducible refine gate_builtin (b := .append) (xs := #[.tmp 41, .tmp 43]) rfl ?_); at_builtin; refine Kd.R_append (Kd.int .i64) (w0 := w) w.heap.size rfl (.tmp 41) (.tmp 43) 33 3 (.int .i64 0) 8 rfl Try.underlying33 info3 rfl (by decide) (by omega) u364001 x364001_1 (wrap64 ((rd l0_1 x7_1) + (rd l1_1 x7_1))) [.int .i64 (wrap64 ((rd l0_1 x7_1) + (rd l1_1 x7_1)))] (fun _ => True) (fun _ => False) rfl rfl ?aP (fun _ hk => hk.elim) ?aF ?aO ?aB ?aS ?aL ?_; (case aP => exact rfl); (case aB => exact (by repeat (first | (with_reducible first | exact HB.out | apply below_alloc | apply pw_below_drewN | apply below_drew1 | refine below_set ?_ GE360.out | refine below_set ?_ GE361.out | refine below_set ?_ GE362.out | refine below_set ?_ GE363.out) | exact HB.out))); (case aF => exact (fun _ _ => trivial)); (case aO => exact (by (with_reducible repeat (first | apply Kd.R_alloc | apply Kd.R_drewN | apply Kd.R_drew)); exact HO_364001.out)); (case aS => exact (below_size (by repeat (first | (with_reducible first | exact HB.out | apply below_alloc | apply pw_below_drewN | apply below_drew1 | refine below_set ?_ GE360.out | refine below_set ?_ GE361.out | refine below_set ?_ GE362.out | refine below_set ?_ GE363.out) | exact HB.out)))); (case aL => have := LMc41.out; omega); intro v367 w51 ho hb hg hat; rw [← Ny366.out] at ho; have n0_ := Aside0.mk (blk_grown (g := gb360) (o := .cells #[.int .i64 a0_0, .slice (some ad364) l0_1.length c0_1] 60 (0, 0)) (by (with_reducible repeat (first | refine blk_drewN ?_ _ | refine blk_drew ?_ | refine blk_alloc ?_ _)); exact BK360.out) hg (Kd.R_ne HO_364001.out BK360.out (by decide))); have n1_ := Aside0.mk (blk_grown (g := gb361) (o := .cells #[.int .i64 a1_0, .slice (some ad365) l1_1.length c1_1] 60 (0, 0)) (by (with_reducible repeat (first | refine blk_drewN ?_ _ | refine blk_drew ?_ | refine blk_alloc ?_ _)); exact BK361.out) hg (Kd.R_ne HO_364001.out BK361.out (by decide))); have n2_ := Aside0.mk (blk_grown (g := gb362) (o := .cells #[.int .i64 x363000_1, .slice none 0 0] 60 (0, 0)) (by (with_reducible repeat (first | refine blk_drewN ?_ _ | refine blk_drew ?_ | refine blk_alloc ?_ _)); exact BK362.out) hg (Kd.R_ne HO_364001.out BK362.out (by decide))); have n3_ := Aside0.mk (blk_grown (g := gb363) (o := .cells #[.int .i64 (wrap64 (a0_0 * a1_0)), u364001] 60 (0, 0)) (by (with_reducible repeat (first | refine blk_drewN ?_ _ | refine blk_drew ?_ | refine blk_alloc ?_ _)); exact BK363.out) hg (Kd.R_ne HO_364001.out BK363.out (by decide))); have n4_ := Aside0.mk (hb); have n5_ := Aside0.mk (ho); clear BK360; clear BK361; clear BK362; clear BK363; clear HB; clear HO_364001; have BK360 := n0_; have BK361 := n1_; have BK362 := n2_; have BK363 := n3_; have HB := n4_; have HO368 := n5_; clear n0_ n1_ n2_ n3_ n4_ n5_; clear ho hb hg hat; obtain ⟨Ao52, co52, eo52⟩ := Kd.R_slice HO368.out; subst eo52; have hcz53_0 : w51.cell? ⟨gb363, 0, none⟩ = some (.int .i64 (wrap64 (a0_0 * a1_0))) := (blk_cell BK363.out 0).trans rfl; have hcz53_1 : w51.cell? ⟨gb363, 1, none⟩ = some (u364001) := (blk_cell BK363.out 1).trans rfl; have hfz53_0 := blk_frozen BK363.out 0; have hfz53_1 := blk_frozen BK363.out 1))
           repeat (go_quiet (first | ((with_reducible refine gate_builtin (b := .append) (xs := #[.tmp 41, .tmp 43]) rfl ?_); at_builtin; refine Kd.R_append (Kd.int .i64) (w0 := w) w.heap.size rfl (.tmp 41) (.tmp 43) 33 3 (.int .i64 0) 8 rfl Try.underlying33 info3 rfl (by decide) (by omega) u364001 x364001_1 (wrap64 ((rd l0_1 x7_1) + (rd l1_1 x7_1))) [.int .i64 (wrap64 ((rd l0_1 x7_1) + (rd l1_1 x7_1)))] (fun _ => True) (fun _ => False) rfl rfl ?aP (fun _ hk => hk.elim) ?aF ?aO ?aB ?aS ?aL ?_; (case aP => exact rfl); (case aB => exact (by repeat (first | (with_reducible first | exact HB.out | apply below_alloc | apply pw_below_drewN | apply below_drew1 | refine below_set ?_ GE360.out | refine below_set ?_ GE361.out | refine below_set ?_ GE362.out | refine below_set ?_ GE363.out) | exact HB.out))); (case aF => exact (fun _ _ => trivial)); (case aO => exact (by (with_reducible repeat (first | apply Kd.R_alloc | apply Kd.R_drewN | apply Kd.R_drew)); exact HO_364001.out)); (case aS => exact (below_size (by repeat (first | (with_reducible first | exact HB.out | apply below_alloc | apply pw_below_drewN | apply below_drew1 | refine below_set ?_ GE360.out | refine below_set ?_ GE361.out | refine below_set ?_ GE362.out | refine below_set ?_ GE363.out) | exact HB.out)))); (case aL => have := LMc41.out; omega); intro v367 w51 ho hb hg hat; rw [← Ny366.out] at ho; have n0_ := Aside0.mk (blk_grown (g := gb360) (o := .cells #[.int .i64 a0_0, .slice (some ad364) l0_1.length c0_1] 60 (0, 0)) (by (with_reducible repeat (first | refine blk_drewN ?_ _ | refine blk_drew ?_ | refine blk_alloc ?_ _)); exact BK360.out) hg (Kd.R_ne HO_364001.out BK360.out (by decide))); have n1_ := Aside0.mk (blk_grown (g := gb361) (o := .cells #[.int .i64 a1_0, .slice (some ad365) l1_1.length c1_1] 60 (0, 0)) (by (with_reducible repeat (first | refine blk_drewN ?_ _ | refine blk_drew ?_ | refine blk_alloc ?_ _)); exact BK361.out) hg (Kd.R_ne HO_364001.out BK361.out (by decide))); have n2_ := Aside0.mk (blk_grown (g := gb362) (o := .cells #[.int .i64 x363000_1, .slice none 0 0] 60 (0, 0)) (by (with_reducible repeat (first | refine blk_drewN ?_ _ | refine blk_drew ?_ | refine blk_alloc ?_ _)); exact BK362.out) hg (Kd.R_ne HO_364001.out BK362.out (by decide))); have n3_ := Aside0.mk (blk_grown (g := gb363) (o := .cells #[.int .i64 (wrap64 (a0_0 * a1_0)), u364001] 60 (0, 0)) (by (with_reducible repeat (first | refine blk_drewN ?_ _ | refine blk_drew ?_ | refine blk_alloc ?_ _)); exact BK363.out) hg (Kd.R_ne HO_364001.out BK363.out (by decide))); have n4_ := Aside0.mk (hb); have n5_ := Aside0.mk (ho); clear BK360; clear BK361; clear BK362; clear BK363; clear HB; clear HO_364001; have BK360 := n0_; have BK361 := n1_; have BK362 := n2_; have BK363 := n3_; have HB := n4_; have HO368 := n5_; clear n0_ n1_ n2_ n3_ n4_ n5_; clear ho hb hg hat; obtain ⟨Ao52, co52, eo52⟩ := Kd.R_slice HO368.out; subst eo52; have hcz53_0 : w51.cell? ⟨gb363, 0, none⟩ = some (.int .i64 (wrap64 (a0_0 * a1_0))) := (blk_cell BK363.out 0).trans rfl; have hcz53_1 : w51.cell? ⟨gb363, 1, none⟩ = some (u364001) := (blk_cell BK363.out 1).trans rfl; have hfz53_0 := blk_frozen BK363.out 0; have hfz53_1 := blk_frozen BK363.out 1)); try go_wp2_with (first | ((with_reducible refine gate_builtin (b := .append) (xs := #[.tmp 41, .tmp 43]) rfl ?_); at_builtin; refine Kd.R_append (Kd.int .i64) (w0 := w) w.heap.size rfl (.tmp 41) (.tmp 43) 33 3 (.int .i64 0) 8 rfl Try.underlying33 info3 rfl (by decide) (by omega) u364001 x364001_1 (wrap64 ((rd l0_1 x7_1) + (rd l1_1 x7_1))) [.int .i64 (wrap64 ((rd l0_1 x7_1) + (rd l1_1 x7_1)))] (fun _ => True) (fun _ => False) rfl rfl ?aP (fun _ hk => hk.elim) ?aF ?aO ?aB ?aS ?aL ?_; (case aP => exact rfl); (case aB => exact (by repeat (first | (with_reducible first | exact HB.out | apply below_alloc | apply pw_below_drewN | apply below_drew1 | refine below_set ?_ GE360.out | refine below_set ?_ GE361.out | refine below_set ?_ GE362.out | refine below_set ?_ GE363.out) | exact HB.out))); (case aF => exact (fun _ _ => trivial)); (case aO => exact (by (with_reducible repeat (first | apply Kd.R_alloc | apply Kd.R_drewN | apply Kd.R_drew)); exact HO_364001.out)); (case aS => exact (below_size (by repeat (first | (with_reducible first | exact HB.out | apply below_alloc | apply pw_below_drewN | apply below_drew1 | refine below_set ?_ GE360.out | refine below_set ?_ GE361.out | refine below_set ?_ GE362.out | refine below_set ?_ GE363.out) | exact HB.out)))); (case aL => have := LMc41.out; omega); intro v367 w51 ho hb hg hat; rw [← Ny366.out] at ho; have n0_ := Aside0.mk (blk_grown (g := gb360) (o := .cells #[.int .i64 a0_0, .slice (some ad364) l0_1.length c0_1] 60 (0, 0)) (by (with_reducible repeat (first | refine blk_drewN ?_ _ | refine blk_drew ?_ | refine blk_alloc ?_ _)); exact BK360.out) hg (Kd.R_ne HO_364001.out BK360.out (by decide))); have n1_ := Aside0.mk (blk_grown (g := gb361) (o := .cells #[.int .i64 a1_0, .slice (some ad365) l1_1.length c1_1] 60 (0, 0)) (by (with_reducible repeat (first | refine blk_drewN ?_ _ | refine blk_drew ?_ | refine blk_alloc ?_ _)); exact BK361.out) hg (Kd.R_ne HO_364001.out BK361.out (by decide))); have n2_ := Aside0.mk (blk_grown (g := gb362) (o := .cells #[.int .i64 x363000_1, .slice none 0 0] 60 (0, 0)) (by (with_reducible repeat (first | refine blk_drewN ?_ _ | refine blk_drew ?_ | refine blk_alloc ?_ _)); exact BK362.out) hg (Kd.R_ne HO_364001.out BK362.out (by decide))); have n3_ := Aside0.mk (blk_grown (g := gb363) (o := .cells #[.int .i64 (wrap64 (a0_0 * a1_0)), u364001] 60 (0, 0)) (by (with_reducible repeat (first | refine blk_drewN ?_ _ | refine blk_drew ?_ | refine blk_alloc ?_ _)); exact BK363.out) hg (Kd.R_ne HO_364001.out BK363.out (by decide))); have n4_ := Aside0.mk (hb); have n5_ := Aside0.mk (ho); clear BK360; clear BK361; clear BK362; clear BK363; clear HB; clear HO_364001; have BK360 := n0_; have BK361 := n1_; have BK362 := n2_; have BK363 := n3_; have HB := n4_; have HO368 := n5_; clear n0_ n1_ n2_ n3_ n4_ n5_; clear ho hb hg hat; obtain ⟨Ao52, co52, eo52⟩ := Kd.R_slice HO368.out; subst eo52; have hcz53_0 : w51.cell? ⟨gb363, 0, none⟩ = some (.int .i64 (wrap64 (a0_0 * a1_0))) := (blk_cell BK363.out 0).trans rfl; have hcz53_1 : w51.cell? ⟨gb363, 1, none⟩ = some (u364001) := (blk_cell BK363.out 1).trans rfl; have hfz53_0 := blk_frozen BK363.out 0; have hfz53_1 := blk_frozen BK363.out 1)))
           go_roundg k1
           case measure => have := HK1.out; omega
           case rel => exact ⟨(wrap64 (x7_1 + 1)), (x363000_1), (y366), (.slice Ao52 y366.length co52), (by first | rfl | (simp; done) | (simp [*]; done)), H', ⟨by have := HK1.out; omega⟩, ⟨by (with_reducible repeat (first | apply Kd.R_alloc | apply Kd.R_drewN | apply Kd.R_drew)); exact Kd.R_mono (Kd.R_far (p := ⟨gb363, 1, none⟩) (Kd.R_types HO368.out BK363.out (by decide)) (fun _ hk => hk.2) (.slice Ao52 y366.length co52)) (fun _ hk => trivial)⟩, ⟨by (with_reducible repeat (first | refine blk_drewN ?_ _ | refine blk_drew ?_ | refine blk_alloc ?_ _)); refine blk_far ?_ NB360_363.out _; (with_reducible repeat (first | refine blk_drewN ?_ _ | refine blk_drew ?_ | refine blk_alloc ?_ _)); exact BK360.out⟩, ⟨by (with_reducible repeat (first | refine blk_drewN ?_ _ | refine blk_drew ?_ | refine blk_alloc ?_ _)); refine blk_far ?_ NB361_363.out _; (with_reducible repeat (first | refine blk_drewN ?_ _ | refine blk_drew ?_ | refine blk_alloc ?_ _)); exact BK361.out⟩, ⟨by (with_reducible repeat (first | refine blk_drewN ?_ _ | refine blk_drew ?_ | refine blk_alloc ?_ _)); refine blk_far ?_ NB362_363.out _; (with_reducible repeat (first | refine blk_drewN ?_ _ | refine blk_drew ?_ | refine blk_alloc ?_ _)); exact BK362.out⟩, ⟨by (with_reducible repeat (first | refine blk_drewN ?_ _ | refine blk_drew ?_ | refine blk_alloc ?_ _)); refine blk_put (cs := #[.int .i64 (wrap64 (a0_0 * a1_0)), u364001]) ?_ 1 _ rfl; (with_reducible repeat (first | refine blk_drewN ?_ _ | refine blk_drew ?_ | refine blk_alloc ?_ _)); exact BK363.out⟩, ⟨by repeat (first | (with_reducible first | exact HB.out | apply below_alloc | apply pw_below_drewN | apply below_drew1 | refine below_set ?_ GE360.out | refine below_set ?_ GE361.out | refine below_set ?_ GE362.out | refine below_set ?_ GE363.out) | exact HB.out)⟩⟩
          ·rw [if_neg c41] at H
           exact absurd H (by simp)
        ·rw [if_neg c30] at H
         exact absurd H (by simp)
       ·rw [if_neg c29] at H
        exact absurd H (by simp)
      ·rw [if_neg c28] at H
       exact absurd H (by simp)
     ·rw [if_neg c27] at H
      have c27b0 : decide (x7_1 < 8) = false := decide_eq_false c27
      clear c27
      simp only [Option.some.injEq, Prod.mk.injEq] at H
      obtain ⟨rfl, rfl, rfl⟩ := H
      have hnb54 := NB363_360.out
      have hnc54 := NB360_363.out
      have hnb55 := NB363_361.out
      have hnc55 := NB361_363.out
      have hnb56 := NB363_362.out
      have hnc56 := NB362_363.out
      have hcz57_0 : wr.cell? ⟨gb363, 0, none⟩ = some (.int .i64 (wrap64 (a0_0 * a1_0))) := (blk_cell BK363.out 0).trans rfl
      have hcz57_1 : wr.cell? ⟨gb363, 1, none⟩ = some (u364001) := (blk_cell BK363.out 1).trans rfl
      have hfz57_0 := blk_frozen BK363.out 0
      have hfz57_1 := blk_frozen BK363.out 1
      have hnb58 := NB362_360.out
      have hnc58 := NB360_362.out
      have hnb59 := NB362_361.out
      have hnc59 := NB361_362.out
      have hcz60_0 : wr.cell? ⟨gb362, 0, none⟩ = some (.int .i64 x363000_1) := (blk_cell BK362.out 0).trans rfl
      have hcz60_1 : wr.cell? ⟨gb362, 1, none⟩ = some (.slice none 0 0) := (blk_cell BK362.out 1).trans rfl
      have hfz60_0 := blk_frozen BK362.out 0
      have hfz60_1 := blk_frozen BK362.out 1
      obtain ⟨Ao61, co61, eo61⟩ := Kd.R_slice HO_364001.out
      subst eo61
      go_wp2
      repeat (go_quiet (fail); try go_wp2)
      refine bodyPost_ret (results_ct rfl _ _ gb362 60 #[.int .i64 (wrap64 (a0_0 * a1_0)), .slice Ao61 x364001_1.length co61] (0, 0) _ rfl (by (with_reducible repeat (first | refine blk_drewN ?_ _ | refine blk_drew ?_ | refine blk_alloc ?_ _)); refine blk_put (cs := #[.int .i64 (wrap64 (a0_0 * a1_0)), .slice none 0 0]) ?_ 1 _ rfl; (with_reducible repeat (first | refine blk_drewN ?_ _ | refine blk_drew ?_ | refine blk_alloc ?_ _)); refine blk_put (cs := #[.int .i64 x363000_1, .slice none 0 0]) ?_ 0 _ rfl; (with_reducible repeat (first | refine blk_drewN ?_ _ | refine blk_drew ?_ | refine blk_alloc ?_ _)); exact BK362.out) Try.underlying60 rfl (by kernel_rfl)) rfl ?_
      exact ⟨_, by first | rfl | (simp [errW_none, errW_some] <;> rfl) | (simp [*, errW_none, errW_some] <;> rfl), by (with_reducible repeat (first | apply Kd.R_alloc | apply Kd.R_drewN | apply Kd.R_drew)); exact Kd.R_mono (Kd.R_far (p := ⟨gb362, 1, none⟩) (Kd.R_far (p := ⟨gb362, 0, none⟩) (Kd.R_types HO_364001.out BK362.out (by decide)) (fun _ hk => hk.2) (.int .i64 (wrap64 (a0_0 * a1_0)))) (fun _ hk => hk.2) (.slice Ao61 x364001_1.length co61)) (fun _ hk => trivial), by repeat (first | (with_reducible first | exact HB.out | apply below_alloc | apply pw_below_drewN | apply below_drew1 | refine below_set ?_ GE360.out | refine below_set ?_ GE361.out | refine below_set ?_ GE362.out | refine below_set ?_ GE363.out) | exact HB.out)⟩
end Go.Proofs.Ythkclagcbjnckaa.Pa


namespace Go.Proofs.Ythkclagcbjnckaa.Pa
open Go.RowKit Go.Proofs.YthkclagcbjnckaaW.PrintWords Go.Proofs.YthkclagcbjnckaaW.PrintLast Go.Proofs.YthkclagcbjnckaaW.PrintMore
attribute [local go_sem] max2_int min2_int max_two min_two max_three min_three max_four min_four
set_option linter.unusedVariables false
set_option linter.unusedSimpArgs false
mutual
def tenetref24_mul.l0 : Nat → List (S60) → List (S60) → List (S60) → Int → Option ((List (S60)) × Bool)
 | 0, _, _, _, _ => none
 | k + 1, x0, x1, x6, x7 => if x7 < (x0.length : Int) then (tenetref24_mul.l1 k x0 x1 x6 x7 0) else (some (x6, decide ((x6.length : Int) ≤ 200)))
def tenetref24_mul.l1 : Nat → List (S60) → List (S60) → List (S60) → Int → Int → Option ((List (S60)) × Bool)
 | 0, _, _, _, _, _ => none
 | k + 1, x0, x1, x6, x7, x8 => if x8 < (x1.length : Int) then (if 0 ≤ x7 then (if x7 < (x0.length : Int) then (if 0 ≤ x8 then ((tenetref24_times.f k ((rd_T60 x0 x7).f0) ((rd_T60 x0 x7).f1) ((rd_T60 x1 x8).f0) ((rd_T60 x1 x8).f1)).bind fun bt371 => (if bt371.2.2 = true then ((tenetref24_into.f k x6 bt371.1 bt371.2.1).bind fun bt377 => (if bt377.2 = true then (tenetref24_mul.l1 k x0 x1 bt377.1 x7 (wrap64 (x8 + 1))) else (some (([] : List (S60)), false)))) else (some (([] : List (S60)), false)))) else (none)) else (none)) else (none)) else (tenetref24_mul.l0 k x0 x1 x6 (wrap64 (x7 + 1)))
end
def tenetref24_mul.f (k : Nat) (l0 : List (S60)) (l1 : List (S60)) : Option ((List (S60)) × Bool) := tenetref24_mul.l0 k l0 l1 ([] : List (S60)) 0
def tenetref24_mul.T8 : Bool × List (List Nat × List Nat) := (true, [([], []), ([], []), ([0, 1], [0, 1]), ([2], [2]), ([], []), ([], []), ([4, 5], [4, 5]), ([6], [6]), ([3, 7], [3, 7]), ([8], [8]), ([9], [9]), ([9], [9]), ([], []), ([12, 10, 8, 0, 1, 2, 3, 4, 5, 6, 7, 8, 9, 10, 12], [10, 12]), ([11, 13, 0, 1, 2, 3, 4, 5, 6, 7, 8, 9, 10, 11, 12, 13], [11])])
def tenetref24_mul.B8 : List Nat := [0, 0, 3, 7, 0, 0, 48, 112, 255, 511, 1023, 1023, 0, 6143, 16383]
theorem tenetref24_mul.tab8 : rtab .any (opsOf Try.f76 8) = tenetref24_mul.T8 := by kernel_rfl
theorem tenetref24_mul.bits8 : waitsOk tenetref24_mul.T8.2 tenetref24_mul.B8 = true := by kernel_rfl
set_option maxHeartbeats 8000000 in
set_option maxRecDepth 100000 in
theorem tenetref24_mul.calls (k : Nat) (A0 : Option Addr) (c0 : Nat) (l0 : List (S60)) (A1 : Option Addr) (c1 : Nat) (l1 : List (S60)) (r1 : List (S60)) (r2 : Bool) (w : World) (hr0 : Kd.C k60 w A0 l0.length l0) (hc0 : l0.length ≤ c0) (hr1 : Kd.C k60 w A1 l1.length l1) (hc1 : l1.length ≤ c1) (h : tenetref24_mul.f k l0 l1 = some (r1, r2)) :
  Calls Try.prog 76 #[.slice A0 l0.length c0, .slice A1 l1.length c1] w fun e w' => ∃ v0_ : Value, e = .returned (.tuple #[v0_, .bool r2]) ∧ Kd.N k60 60 w' w.heap.size (fun k_ => (w.heap.size ≤ k_)) v0_ r1 ∧ Below w.heap.size w w' := by
 have hu60 := Try.underlying60
 have HR0 := Aside0.mk hr0
 have HC0 := Aside0.mk hc0
 clear hr0 hc0
 have HR1 := Aside0.mk hr1
 have HC1 := Aside0.mk hc1
 clear hr1 hc1
 have HB := Aside0.mk (Below.refl w.heap.size w)
 have H : (tenetref24_mul.l0 k l0 l1 ([] : List (S60)) 0) = some (r1, r2) := h
 clear h
 have H' := Aside0.mk H
 clear H
 go_enter Try.func76, Try.ntmps76
 go_wp2
 go_loopg [6, 7] k (fun kq v6 v7 w' => ∃ (x6_1 : List (S60)) (x7_1 : Int), v7 = .int .i64 x7_1 ∧ Aside0 (tenetref24_mul.l0 kq l0 l1 x6_1 x7_1 = some (r1, r2)) ∧ Aside0 (kq ≤ k) ∧ Aside0 (Kd.N k60 60 w' w.heap.size (fun k_ => (w.heap.size ≤ k_)) v6 x6_1) ∧ Aside0 (Below w.heap.size w w'))
 case atStart => exact ⟨(([] : List (S60))), (0), (by first | rfl | (simp; done) | (simp [*]; done)), H', ⟨Nat.le_refl _⟩, ⟨by first | exact Kd.S_nil _ _ _ _ _ | exact Kd.N_nil _ _ _ _ _ | exact Kd.V_nil _ _ _ _ _ | exact Kd.Q_nil _ _ _ _ _ | exact Kd.R_nil _ _ _ _ _⟩, ⟨by repeat (first | (with_reducible first | exact HB.out | apply below_alloc | apply pw_below_drewN | apply below_drew1) | exact HB.out)⟩⟩
 case round =>
  clear H'
  try clear c1
  try clear p2
  obtain ⟨x6_1, x7_1, rfl, HA, HK1, HO_6, HB⟩ := hrel
  cases gk with
  | zero => exact absurd HA.out (by simp [tenetref24_mul.l0])
  | succ k1 =>
   have H := HA.out
   clear HA
   simp only [tenetref24_mul.l0] at H
   by_cases c3 : x7_1 < (l0.length : Int)
   ·rw [if_pos c3] at H
    have c3b0 : decide (x7_1 < (l0.length : Int)) = true := decide_eq_true c3
    clear c3
    have H' := Aside0.mk H
    clear H
    go_wp2
    go_loopg [6, 8] k1 (fun kq v6 v8 w' => ∃ (x6_2 : List (S60)) (x8_2 : Int), v8 = .int .i64 x8_2 ∧ Aside0 (tenetref24_mul.l1 kq l0 l1 x6_2 x7_1 x8_2 = some (r1, r2)) ∧ Aside0 (kq ≤ k1) ∧ Aside0 (Kd.N k60 60 w' w.heap.size (fun k_ => (w.heap.size ≤ k_)) v6 x6_2) ∧ Aside0 (Below w.heap.size w w'))
    case atStart => exact ⟨(x6_1), (0), (by first | rfl | (simp; done) | (simp [*]; done)), H', ⟨Nat.le_refl _⟩, ⟨by (with_reducible repeat (first | apply Kd.N_alloc | apply Kd.N_drewN | apply Kd.N_drew)); exact HO_6.out⟩, ⟨by repeat (first | (with_reducible first | exact HB.out | apply below_alloc | apply pw_below_drewN | apply below_drew1) | exact HB.out)⟩⟩
    case round =>
     clear H'
     try clear c1
     try clear p2
     try clear c3
     try clear c3b0
     try clear p2
     obtain ⟨x6_2, x8_2, rfl, HA, HK2, HO_6, HB⟩ := hrel
     cases gk with
     | zero => exact absurd HA.out (by simp [tenetref24_mul.l1])
     | succ k2 =>
      have H := HA.out
      clear HA
      simp only [tenetref24_mul.l1] at H
      by_cases c4 : x8_2 < (l1.length : Int)
      ·rw [if_pos c4] at H
       have c4b0 : decide (x8_2 < (l1.length : Int)) = true := decide_eq_true c4
       clear c4
       by_cases c5 : 0 ≤ x7_1
       ·rw [if_pos c5] at H
        have c5b0 : decide (0 ≤ x7_1) = true := decide_eq_true c5
        clear c5
        by_cases c6 : x7_1 < (l0.length : Int)
        ·rw [if_pos c6] at H
         have c6b0 : decide (x7_1 < (l0.length : Int)) = true := decide_eq_true c6
         clear c6
         by_cases c7 : 0 ≤ x8_2
         ·rw [if_pos c7] at H
          have c7b0 : decide (0 ≤ x8_2) = true := decide_eq_true c7
          clear c7
          replace H := Option.bind_eq_some_iff.mp H
          obtain ⟨⟨t371, t372, t375⟩, A80, H⟩ := H
          replace H : (if t375 = true then ((tenetref24_into.f k2 x6_2 t371 t372).bind fun bt377 => (if bt377.2 = true then (tenetref24_mul.l1 k2 l0 l1 bt377.1 x7_1 (wrap64 (x8_2 + 1))) else (some (([] : List (S60)), false)))) else (some (([] : List (S60)), false))) = some (r1, r2) := H
          have A8 := Aside0.mk A80
          clear A80
          by_cases c9 : t375 = true
          ·subst c9
           have H1 : ((tenetref24_into.f k2 x6_2 t371 t372).bind fun bt377 => (if bt377.2 = true then (tenetref24_mul.l1 k2 l0 l1 bt377.1 x7_1 (wrap64 (x8_2 + 1))) else (some (([] : List (S60)), false)))) = some (r1, r2) := by rw [if_pos rfl] at H; exact H
           clear H
           have H := H1
           clear H1
           replace H := Option.bind_eq_some_iff.mp H
           obtain ⟨⟨t377, t380⟩, A100, H⟩ := H
           replace H : (if t380 = true then (tenetref24_mul.l1 k2 l0 l1 t377 x7_1 (wrap64 (x8_2 + 1))) else (some (([] : List (S60)), false))) = some (r1, r2) := H
           have A10 := Aside0.mk A100
           clear A100
           by_cases c11 : t380 = true
           ·subst c11
            have H1 : (tenetref24_mul.l1 k2 l0 l1 t377 x7_1 (wrap64 (x8_2 + 1))) = some (r1, r2) := by rw [if_pos rfl] at H; exact H
            clear H
            have H := H1
            clear H1
            have H' := Aside0.mk H
            clear H
            try go_wp2
            have n0_ := Aside0.mk (Kd.N_drew HO_6.out)
            have n1_ := Aside0.mk (below_drew1 HB.out)
            clear HO_6
            clear HB
            have HO_6 := n0_
            have HB := n1_
            clear n0_ n1_
            have p369 : 0 ≤ (x7_1 : Int) := of_decide_eq_true (by first | (with_reducible assumption) | assumption)
            have q369 : x7_1 < (l0.length : Int) := of_decide_eq_true (by first | (with_reducible assumption) | assumption)
            obtain ⟨ad369, A369_1, c369_1, e369, hx369_0, hx369_1, hl369_1, hi369_1⟩ := at_T60 HR0.out x7_1 p369 q369
            have hw369_1 := hx369_1
            have hw369_0 := hx369_0
            cases e369
            replace hx369_0 := (HB.out.cell (World.block_lt_of_cell? w _ hx369_0)).trans hx369_0
            replace hx369_1 := (HB.out.cell (World.block_lt_of_cell? w _ hx369_1)).trans hx369_1
            have HR369_1 := Aside0.mk hi369_1
            have HC369_1 := Aside0.mk hl369_1
            clear hi369_1 hl369_1
            replace p369 := eq_true p369
            replace q369 := eq_true q369
            have p370 : 0 ≤ (x8_2 : Int) := of_decide_eq_true (by first | (with_reducible assumption) | assumption)
            have q370 : x8_2 < (l1.length : Int) := of_decide_eq_true (by first | (with_reducible assumption) | assumption)
            obtain ⟨ad370, A370_1, c370_1, e370, hx370_0, hx370_1, hl370_1, hi370_1⟩ := at_T60 HR1.out x8_2 p370 q370
            have hw370_1 := hx370_1
            have hw370_0 := hx370_0
            cases e370
            replace hx370_0 := (HB.out.cell (World.block_lt_of_cell? w _ hx370_0)).trans hx370_0
            replace hx370_1 := (HB.out.cell (World.block_lt_of_cell? w _ hx370_1)).trans hx370_1
            have HR370_1 := Aside0.mk hi370_1
            have HC370_1 := Aside0.mk hl370_1
            clear hi370_1 hl370_1
            replace p370 := eq_true p370
            replace q370 := eq_true q370
            refine start_ (n := 15) (S := fun w' => w'.cell? (ad369.add ((x7_1).toNat * 2)) = some (.int .i64 ((rd_T60 l0 x7_1).f0)) ∧ w'.cell? ⟨(ad369.add ((x7_1).toNat * 2)).block, (ad369.add ((x7_1).toNat * 2)).off + 1, none⟩ = some (.slice A369_1 ((rd_T60 l0 x7_1).f1).length c369_1) ∧ w'.cell? (ad370.add ((x8_2).toNat * 2)) = some (.int .i64 ((rd_T60 l1 x8_2).f0)) ∧ w'.cell? ⟨(ad370.add ((x8_2).toNat * 2)).block, (ad370.add ((x8_2).toNat * 2)).off + 1, none⟩ = some (.slice A370_1 ((rd_T60 l1 x8_2).f1).length c370_1)) (ds := []) #[false, false, false, false, false, false, false, false, false, false, false, false, false, false, false] (by kernel_rfl) rfl rfl ⟨((HB.out.cell (World.block_lt_of_cell? w _ hw369_0)).trans hw369_0), ((HB.out.cell (World.block_lt_of_cell? w _ hw369_1)).trans hw369_1), ((HB.out.cell (World.block_lt_of_cell? w _ hw370_0)).trans hw370_0), ((HB.out.cell (World.block_lt_of_cell? w _ hw370_1)).trans hw370_1)⟩ (fun hHeld => ?_); refine with_tabW tenetref24_mul.tab8 tenetref24_mul.bits8 (fun HT_ HW_ => ?_)
            generalize wr.drew = w12 at HO_6 HB HR369_1 HR370_1 hx369_0 hx369_1 hx370_0 hx370_1 hHeld ⊢
            refine pure_ (i := 0) (N := some 26) (v := ?_) (a' := ?_) #[true, false, false, false, false, false, false, false, false, false, false, false, false, false, false] rfl rfl (any_of HT_.out (by kernel_rfl)) (fun _ _ _ h => h) (Or.inl ⟨by rfl, ?_⟩) ?_ ?_
            rotate_left
            ·intro w'
             go_simp
             with_reducible rfl
            rotate_left
            ·simp only [Act.put, List.setIfInBounds_toArray, List.set_cons_zero, List.set_cons_succ, i64_w, i32_w]
             rfl
            refine pure_ (i := 1) (N := some 27) (v := ?_) (a' := ?_) #[true, true, false, false, false, false, false, false, false, false, false, false, false, false, false] rfl rfl (any_of HT_.out (by kernel_rfl)) (fun _ _ _ h => h) (Or.inl ⟨by rfl, ?_⟩) ?_ ?_
            rotate_left
            ·intro w'
             go_simp
             with_reducible rfl
            rotate_left
            ·simp only [Act.put, List.setIfInBounds_toArray, List.set_cons_zero, List.set_cons_succ, i64_w, i32_w]
             rfl
            refine pure_ (i := 2) (N := some 28) (v := ?_) (a' := ?_) #[true, true, true, false, false, false, false, false, false, false, false, false, false, false, false] rfl rfl (any_of HT_.out (by kernel_rfl)) (fun _ _ _ h => h) (Or.inl ⟨by rfl, ?_⟩) ?_ ?_
            rotate_left
            ·intro w'
             go_simp
             with_reducible rfl
            rotate_left
            ·simp only [Act.put, List.setIfInBounds_toArray, List.set_cons_zero, List.set_cons_succ, i64_w, i32_w]
             rfl
            refine pure_ (i := 4) (N := some 30) (v := ?_) (a' := ?_) #[true, true, true, false, true, false, false, false, false, false, false, false, false, false, false] rfl rfl (any_of HT_.out (by kernel_rfl)) (fun _ _ _ h => h) (Or.inl ⟨by rfl, ?_⟩) ?_ ?_
            rotate_left
            ·intro w'
             go_simp
             with_reducible rfl
            rotate_left
            ·simp only [Act.put, List.setIfInBounds_toArray, List.set_cons_zero, List.set_cons_succ, i64_w, i32_w]
             rfl
            refine pure_ (i := 5) (N := some 31) (v := ?_) (a' := ?_) #[true, true, true, false, true, true, false, false, false, false, false, false, false, false, false] rfl rfl (any_of HT_.out (by kernel_rfl)) (fun _ _ _ h => h) (Or.inl ⟨by rfl, ?_⟩) ?_ ?_
            rotate_left
            ·intro w'
             go_simp
             with_reducible rfl
            rotate_left
            ·simp only [Act.put, List.setIfInBounds_toArray, List.set_cons_zero, List.set_cons_succ, i64_w, i32_w]
             rfl
            refine pure_ (i := 6) (N := some 32) (v := ?_) (a' := ?_) #[true, true, true, false, true, true, true, false, false, false, false, false, false, false, false] rfl rfl (any_of HT_.out (by kernel_rfl)) (fun _ _ _ h => h) (Or.inl ⟨by rfl, ?_⟩) ?_ ?_
            rotate_left
            ·intro w'
             go_simp
             with_reducible rfl
            rotate_left
            ·simp only [Act.put, List.setIfInBounds_toArray, List.set_cons_zero, List.set_cons_succ, i64_w, i32_w]
             rfl
            refine take_ (i := 3) (N := some 29) (v := ?_) (a' := ?_) #[true, true, true, true, true, true, true, false, false, false, false, false, false, false, false] rfl rfl (take_ofW HT_.out HW_.out (by kernel_rfl)) (fun _ _ _ h => h) (Or.inl ⟨by rfl, ?_⟩) hHeld ?_ ?_
            rotate_left
            ·rintro w' ⟨s0, s1, s2, s3⟩
             go_simp
             with_reducible rfl
            rotate_left
            ·simp only [Act.put, List.setIfInBounds_toArray, List.set_cons_zero, List.set_cons_succ, i64_w, i32_w]
             rfl
            refine take_ (i := 7) (N := some 33) (v := ?_) (a' := ?_) #[true, true, true, true, true, true, true, true, false, false, false, false, false, false, false] rfl rfl (take_ofW HT_.out HW_.out (by kernel_rfl)) (fun _ _ _ h => h) (Or.inl ⟨by rfl, ?_⟩) hHeld ?_ ?_
            rotate_left
            ·rintro w' ⟨s0, s1, s2, s3⟩
             go_simp
             with_reducible rfl
            rotate_left
            ·simp only [Act.put, List.setIfInBounds_toArray, List.set_cons_zero, List.set_cons_succ, i64_w, i32_w]
             rfl
            refine join_ (σ := Value × Nat) 2 #[true, true, true, true, true, true, true, true, true, true, true, true, true, false, false] (fun s_ => [(34, .tuple #[.agg #[.int .i64 t371, s_.1], .bool true]), (9, .pointer (some ⟨s_.2, 0, none⟩)), (25, .tuple #[.agg #[.int .i64 t371, s_.1], .bool true]), (35, .agg #[.int .i64 t371, s_.1]), (36, .bool true)]) (fun s_ w' => (w'.cell? (ad369.add ((x7_1).toNat * 2)) = some (.int .i64 ((rd_T60 l0 x7_1).f0)) ∧ w'.cell? ⟨(ad369.add ((x7_1).toNat * 2)).block, (ad369.add ((x7_1).toNat * 2)).off + 1, none⟩ = some (.slice A369_1 ((rd_T60 l0 x7_1).f1).length c369_1) ∧ w'.cell? (ad370.add ((x8_2).toNat * 2)) = some (.int .i64 ((rd_T60 l1 x8_2).f0)) ∧ w'.cell? ⟨(ad370.add ((x8_2).toNat * 2)).block, (ad370.add ((x8_2).toNat * 2)).off + 1, none⟩ = some (.slice A370_1 ((rd_T60 l1 x8_2).f1).length c370_1)) ∧ (Kd.R (Kd.int .i64) 3 w' w.heap.size (fun k_ => (w.heap.size ≤ k_)) s_.1 t372) ∧ (Kd.N k60 60 w' w.heap.size (fun k_ => (w.heap.size ≤ k_) ∧ some k_ ≠ (s_.1 : Value).ownBlock ∧ k_ ≠ s_.2) u6 x6_2) ∧ (w'.heap[s_.2]? = some (.cells #[.int .i64 0, .slice none 0 0] 60 (0, 0))) ∧ (w.heap.size ≤ s_.2) ∧ (w.heap.size ≤ s_.2) ∧ (Below w.heap.size w w')) ?_ ?_
            rotate_left
            ·intro hCont
             refine two_ (i := 8) (j := 12) (Ni := some 34) (Nj := some 9) #[true, true, true, true, true, true, true, true, true, false, false, false, false, false, false] #[true, true, true, true, true, true, true, true, false, false, false, false, true, false, false] rfl rfl rfl rfl (two_of HT_.out (by kernel_rfl)) (by decide) (by decide) (fun K hK => ?_) (fun K hK => ?_)
             ·skip
              refine goes_ Try.func97 (by kernel_rfl) rfl #[.agg #[.int .i64 ((rd_T60 l0 x7_1).f0), .slice A369_1 ((rd_T60 l0 x7_1).f1).length c369_1], .agg #[.int .i64 ((rd_T60 l1 x8_2).f0), .slice A370_1 ((rd_T60 l1 x8_2).f1).length c370_1]] (by rfl) rfl rfl (by (try simp only [List.map_toArray, List.map_cons, List.map_nil]); first | done | rfl | (simp only [List.length_drop, List.length_take]; rfl)) ?_
              with_reducible refine (tenetref24_times.calls k2 ((rd_T60 l0 x7_1).f0) _ _ ((rd_T60 l0 x7_1).f1) ((rd_T60 l1 x8_2).f0) _ _ ((rd_T60 l1 x8_2).f1) t371 t372 true _ ?side1 ?side2 ?side3 ?side4 A8.out).mono ?_
              (case side1 => repeat (first | exact (Kd.C_below HR369_1.out HB.out) | (with_reducible refine Kd.C_alloc ?_ _) | (with_reducible refine Kd.C_drewN ?_ _) | (with_reducible refine Kd.C_drew ?_)))
              (case side2 => exact HC369_1.out)
              (case side3 => repeat (first | exact (Kd.C_below HR370_1.out HB.out) | (with_reducible refine Kd.C_alloc ?_ _) | (with_reducible refine Kd.C_drewN ?_ _) | (with_reducible refine Kd.C_drew ?_)))
              (case side4 => exact HC370_1.out)
              rintro e w13 ⟨v373, rfl, ho0, hb⟩
              refine ⟨_, rfl, ?_⟩
              have n0_ := Aside0.mk (Kd.N_elder' (by (with_reducible repeat (first | apply Kd.N_alloc | apply Kd.N_drewN | apply Kd.N_drew)); exact HO_6.out) (Kd.R_base ho0) hb)
              have n1_ := Aside0.mk (Kd.R_lower (Kd.R_newM (M := fun k_ => (w.heap.size ≤ k_)) ho0 (below_size (by repeat (first | (with_reducible first | exact HB.out | apply below_alloc | apply pw_below_drewN | apply below_drew1) | exact HB.out))) (fun k_ h_ => h_)) (below_size (by repeat (first | (with_reducible first | exact HB.out | apply below_alloc | apply pw_below_drewN | apply below_drew1) | exact HB.out))))
              have n2_ := Aside0.mk (below_step (by repeat (first | (with_reducible first | exact HB.out | apply below_alloc | apply pw_below_drewN | apply below_drew1) | exact HB.out)) hb)
              clear HO_6
              clear HB
              have HO_6 := n0_
              have HO374 := n1_
              have HB := n2_
              clear n0_ n1_ n2_
              (try clear hb)
              (try clear hb2)
              (try clear hk)
              (try clear hi)
              (try clear ho0)
              refine hK.out _ _ ⟨((HB.out.cell (World.block_lt_of_cell? w _ hw369_0)).trans hw369_0), ((HB.out.cell (World.block_lt_of_cell? w _ hw369_1)).trans hw369_1), ((HB.out.cell (World.block_lt_of_cell? w _ hw370_0)).trans hw370_0), ((HB.out.cell (World.block_lt_of_cell? w _ hw370_1)).trans hw370_1)⟩ (fun hHeld => ?_)
              clear hK K
              refine norm_ (a' := ?_) ?_ ?_
              rotate_left
              ·show Act.put _ (some 34) _ = _
               simp only [Act.put, List.setIfInBounds_toArray, List.set_cons_zero, List.set_cons_succ, i64_w, i32_w]
               rfl
              refine pure_ (i := 9) (N := some 25) (v := ?_) (a' := ?_) #[true, true, true, true, true, true, true, true, true, true, false, false, false, false, false] rfl rfl (any_of HT_.out (by kernel_rfl)) (fun _ _ _ h => h) (Or.inl ⟨by rfl, ?_⟩) ?_ ?_
              rotate_left
              ·intro w'
               go_simp
               with_reducible rfl
              rotate_left
              ·simp only [Act.put, List.setIfInBounds_toArray, List.set_cons_zero, List.set_cons_succ, i64_w, i32_w]
               rfl
              refine pure_ (i := 10) (N := some 35) (v := ?_) (a' := ?_) #[true, true, true, true, true, true, true, true, true, true, true, false, false, false, false] rfl rfl (any_of HT_.out (by kernel_rfl)) (fun _ _ _ h => h) (Or.inl ⟨by rfl, ?_⟩) ?_ ?_
              rotate_left
              ·intro w'
               go_simp
               with_reducible rfl
              rotate_left
              ·simp only [Act.put, List.setIfInBounds_toArray, List.set_cons_zero, List.set_cons_succ, i64_w, i32_w]
               rfl
              refine pure_ (i := 11) (N := some 36) (v := ?_) (a' := ?_) #[true, true, true, true, true, true, true, true, true, true, true, true, false, false, false] rfl rfl (any_of HT_.out (by kernel_rfl)) (fun _ _ _ h => h) (Or.inl ⟨by rfl, ?_⟩) ?_ ?_
              rotate_left
              ·intro w'
               go_simp
               with_reducible rfl
              rotate_left
              ·simp only [Act.put, List.setIfInBounds_toArray, List.set_cons_zero, List.set_cons_succ, i64_w, i32_w]
               rfl
              refine one_ (i := 12) (N := some 9) #[true, true, true, true, true, true, true, true, true, true, true, true, true, false, false] rfl rfl (one_of HT_.out (by kernel_rfl)) (by decide) (fun K hK => ?_)
              refine box_step ?hg (N := 9) ?hd (cs := #[.int .i64 0, .slice none 0 0]) (t := 60) ?hr ?_; (case hd => rfl); (case hg => rfl); (case hr => first | (go_simp; done) | (go_simp; rfl))
              intro gb376 hg w14 hbox hb
              have n0_ := Aside0.mk (Kd.N_below (Kd.N_elderB (by (with_reducible repeat (first | apply Kd.N_alloc | apply Kd.N_drewN | apply Kd.N_drew)); exact HO_6.out) gb376 (Nat.le_of_eq hg.symm)) hb)
              have n1_ := Aside0.mk (Kd.R_below (by (with_reducible repeat (first | apply Kd.R_alloc | apply Kd.R_drewN | apply Kd.R_drew)); exact HO374.out) hb)
              have n2_ := Aside0.mk (below_step (by repeat (first | (with_reducible first | exact HB.out | apply below_alloc | apply pw_below_drewN | apply below_drew1) | exact HB.out)) hb)
              have n3_ := Aside0.mk (hbox)
              have n4_ := Aside0.mk ((by rw [hg]; exact (below_size (by repeat (first | (with_reducible first | exact HB.out | apply below_alloc | apply pw_below_drewN | apply below_drew1) | exact HB.out))) : w.heap.size ≤ gb376))
              have n5_ := Aside0.mk ((by rw [hg]; exact (below_size (by repeat (first | (with_reducible first | exact HB.out | apply below_alloc | apply pw_below_drewN | apply below_drew1) | exact HB.out))) : w.heap.size ≤ gb376))
              clear HO_6
              clear HO374
              clear HB
              have HO_6 := n0_
              have HO374 := n1_
              have HB := n2_
              have BK376 := n3_
              have GW376 := n4_
              have GE376 := n5_
              clear n0_ n1_ n2_ n3_ n4_ n5_
              clear hb hbox hg
              refine hK.out _ _ ⟨((HB.out.cell (World.block_lt_of_cell? w _ hw369_0)).trans hw369_0), ((HB.out.cell (World.block_lt_of_cell? w _ hw369_1)).trans hw369_1), ((HB.out.cell (World.block_lt_of_cell? w _ hw370_0)).trans hw370_0), ((HB.out.cell (World.block_lt_of_cell? w _ hw370_1)).trans hw370_1)⟩ (fun hHeld => ?_)
              clear hK K
              refine norm_ (a' := ?_) ?_ ?_
              rotate_left
              ·show Act.put _ (some 9) _ = _
               simp only [Act.put, List.setIfInBounds_toArray, List.set_cons_zero, List.set_cons_succ, i64_w, i32_w]
               rfl
              exact norm_ (by simp only [putAll, Act.put, List.setIfInBounds_toArray, List.set_cons_zero, List.set_cons_succ]) (hCont (v373, gb376) _ ⟨hHeld, (by (with_reducible repeat (first | apply Kd.R_alloc | apply Kd.R_drewN | apply Kd.R_drew)); exact Kd.R_mono HO374.out (fun _ hk => hk.1)), (by (with_reducible repeat (first | apply Kd.N_alloc | apply Kd.N_drewN | apply Kd.N_drew)); exact Kd.N_mono HO_6.out (fun _ hk => ⟨hk.1.1, ⟨hk.1.2, hk.2⟩⟩)), (by (with_reducible repeat (first | refine blk_drewN ?_ _ | refine blk_drew ?_ | refine blk_alloc ?_ _)); exact BK376.out), GW376.out, GE376.out, (by repeat (first | (with_reducible first | exact HB.out | apply below_alloc | apply pw_below_drewN | apply below_drew1 | refine below_set ?_ GE376.out) | exact HB.out))⟩)
             ·skip
              refine box_step ?hg (N := 9) ?hd (cs := #[.int .i64 0, .slice none 0 0]) (t := 60) ?hr ?_; (case hd => rfl); (case hg => rfl); (case hr => first | (go_simp; done) | (go_simp; rfl))
              intro gb376 hg w13 hbox hb
              have n0_ := Aside0.mk (Kd.N_below (Kd.N_elderB (by (with_reducible repeat (first | apply Kd.N_alloc | apply Kd.N_drewN | apply Kd.N_drew)); exact HO_6.out) gb376 (Nat.le_of_eq hg.symm)) hb)
              have n1_ := Aside0.mk (below_step (by repeat (first | (with_reducible first | exact HB.out | apply below_alloc | apply pw_below_drewN | apply below_drew1) | exact HB.out)) hb)
              have n2_ := Aside0.mk (hbox)
              have n3_ := Aside0.mk ((by rw [hg]; exact (below_size (by repeat (first | (with_reducible first | exact HB.out | apply below_alloc | apply pw_below_drewN | apply below_drew1) | exact HB.out))) : w.heap.size ≤ gb376))
              have n4_ := Aside0.mk ((by rw [hg]; exact (below_size (by repeat (first | (with_reducible first | exact HB.out | apply below_alloc | apply pw_below_drewN | apply below_drew1) | exact HB.out))) : w.heap.size ≤ gb376))
              clear HO_6
              clear HB
              have HO_6 := n0_
              have HB := n1_
              have BK376 := n2_
              have GW376 := n3_
              have GE376 := n4_
              clear n0_ n1_ n2_ n3_ n4_
              clear hb hbox hg
              refine hK.out _ _ ⟨((HB.out.cell (World.block_lt_of_cell? w _ hw369_0)).trans hw369_0), ((HB.out.cell (World.block_lt_of_cell? w _ hw369_1)).trans hw369_1), ((HB.out.cell (World.block_lt_of_cell? w _ hw370_0)).trans hw370_0), ((HB.out.cell (World.block_lt_of_cell? w _ hw370_1)).trans hw370_1)⟩ (fun hHeld => ?_)
              clear hK K
              refine norm_ (a' := ?_) ?_ ?_
              rotate_left
              ·show Act.put _ (some 9) _ = _
               simp only [Act.put, List.setIfInBounds_toArray, List.set_cons_zero, List.set_cons_succ, i64_w, i32_w]
               rfl
              refine one_ (i := 8) (N := some 34) #[true, true, true, true, true, true, true, true, true, false, false, false, true, false, false] rfl rfl (one_of HT_.out (by kernel_rfl)) (by decide) (fun K hK => ?_)
              refine goes_ Try.func97 (by kernel_rfl) rfl #[.agg #[.int .i64 ((rd_T60 l0 x7_1).f0), .slice A369_1 ((rd_T60 l0 x7_1).f1).length c369_1], .agg #[.int .i64 ((rd_T60 l1 x8_2).f0), .slice A370_1 ((rd_T60 l1 x8_2).f1).length c370_1]] (by rfl) rfl rfl (by (try simp only [List.map_toArray, List.map_cons, List.map_nil]); first | done | rfl | (simp only [List.length_drop, List.length_take]; rfl)) ?_
              with_reducible refine (tenetref24_times.calls k2 ((rd_T60 l0 x7_1).f0) _ _ ((rd_T60 l0 x7_1).f1) ((rd_T60 l1 x8_2).f0) _ _ ((rd_T60 l1 x8_2).f1) t371 t372 true _ ?side1 ?side2 ?side3 ?side4 A8.out).mono ?_
              (case side1 => repeat (first | exact (Kd.C_below HR369_1.out HB.out) | (with_reducible refine Kd.C_alloc ?_ _) | (with_reducible refine Kd.C_drewN ?_ _) | (with_reducible refine Kd.C_drew ?_)))
              (case side2 => exact HC369_1.out)
              (case side3 => repeat (first | exact (Kd.C_below HR370_1.out HB.out) | (with_reducible refine Kd.C_alloc ?_ _) | (with_reducible refine Kd.C_drewN ?_ _) | (with_reducible refine Kd.C_drew ?_)))
              (case side4 => exact HC370_1.out)
              rintro e w14 ⟨v373, rfl, ho0, hb⟩
              refine ⟨_, rfl, ?_⟩
              have n0_ := Aside0.mk (Kd.N_elder' (by (with_reducible repeat (first | apply Kd.N_alloc | apply Kd.N_drewN | apply Kd.N_drew)); exact HO_6.out) (Kd.R_base ho0) hb)
              have n1_ := Aside0.mk (Kd.R_lower (Kd.R_newM (M := fun k_ => (w.heap.size ≤ k_)) ho0 (below_size (by repeat (first | (with_reducible first | exact HB.out | apply below_alloc | apply pw_below_drewN | apply below_drew1 | refine below_set ?_ GE376.out) | exact HB.out))) (fun k_ h_ => h_)) (below_size (by repeat (first | (with_reducible first | exact HB.out | apply below_alloc | apply pw_below_drewN | apply below_drew1 | refine below_set ?_ GE376.out) | exact HB.out))))
              have n2_ := Aside0.mk (blk_below (g := gb376) (o := .cells #[.int .i64 0, .slice none 0 0] 60 (0, 0)) (by (with_reducible repeat (first | refine blk_drewN ?_ _ | refine blk_drew ?_ | refine blk_alloc ?_ _)); exact BK376.out) hb)
              have n3_ := Aside0.mk (below_step (by repeat (first | (with_reducible first | exact HB.out | apply below_alloc | apply pw_below_drewN | apply below_drew1 | refine below_set ?_ GE376.out) | exact HB.out)) hb)
              clear HO_6
              clear BK376
              clear HB
              have HO_6 := n0_
              have HO374 := n1_
              have BK376 := n2_
              have HB := n3_
              clear n0_ n1_ n2_ n3_
              (try clear hb)
              (try clear hb2)
              (try clear hk)
              (try clear hi)
              (try clear ho0)
              refine hK.out _ _ ⟨((HB.out.cell (World.block_lt_of_cell? w _ hw369_0)).trans hw369_0), ((HB.out.cell (World.block_lt_of_cell? w _ hw369_1)).trans hw369_1), ((HB.out.cell (World.block_lt_of_cell? w _ hw370_0)).trans hw370_0), ((HB.out.cell (World.block_lt_of_cell? w _ hw370_1)).trans hw370_1)⟩ (fun hHeld => ?_)
              clear hK K
              refine norm_ (a' := ?_) ?_ ?_
              rotate_left
              ·show Act.put _ (some 34) _ = _
               simp only [Act.put, List.setIfInBounds_toArray, List.set_cons_zero, List.set_cons_succ, i64_w, i32_w]
               rfl
              refine pure_ (i := 9) (N := some 25) (v := ?_) (a' := ?_) #[true, true, true, true, true, true, true, true, true, true, false, false, true, false, false] rfl rfl (any_of HT_.out (by kernel_rfl)) (fun _ _ _ h => h) (Or.inl ⟨by rfl, ?_⟩) ?_ ?_
              rotate_left
              ·intro w'
               go_simp
               with_reducible rfl
              rotate_left
              ·simp only [Act.put, List.setIfInBounds_toArray, List.set_cons_zero, List.set_cons_succ, i64_w, i32_w]
               rfl
              refine pure_ (i := 10) (N := some 35) (v := ?_) (a' := ?_) #[true, true, true, true, true, true, true, true, true, true, true, false, true, false, false] rfl rfl (any_of HT_.out (by kernel_rfl)) (fun _ _ _ h => h) (Or.inl ⟨by rfl, ?_⟩) ?_ ?_
              rotate_left
              ·intro w'
               go_simp
               with_reducible rfl
              rotate_left
              ·simp only [Act.put, List.setIfInBounds_toArray, List.set_cons_zero, List.set_cons_succ, i64_w, i32_w]
               rfl
              refine pure_ (i := 11) (N := some 36) (v := ?_) (a' := ?_) #[true, true, true, true, true, true, true, true, true, true, true, true, true, false, false] rfl rfl (any_of HT_.out (by kernel_rfl)) (fun _ _ _ h => h) (Or.inl ⟨by rfl, ?_⟩) ?_ ?_
              rotate_left
              ·intro w'
               go_simp
               with_reducible rfl
              rotate_left
              ·simp only [Act.put, List.setIfInBounds_toArray, List.set_cons_zero, List.set_cons_succ, i64_w, i32_w]
               rfl
              exact norm_ (by simp only [putAll, Act.put, List.setIfInBounds_toArray, List.set_cons_zero, List.set_cons_succ]) (hCont (v373, gb376) _ ⟨hHeld, (by (with_reducible repeat (first | apply Kd.R_alloc | apply Kd.R_drewN | apply Kd.R_drew)); exact Kd.R_mono HO374.out (fun _ hk => hk.1)), (by (with_reducible repeat (first | apply Kd.N_alloc | apply Kd.N_drewN | apply Kd.N_drew)); exact Kd.N_mono HO_6.out (fun _ hk => ⟨hk.1.1, ⟨hk.2, hk.1.2⟩⟩)), (by (with_reducible repeat (first | refine blk_drewN ?_ _ | refine blk_drew ?_ | refine blk_alloc ?_ _)); exact BK376.out), GW376.out, GE376.out, (by repeat (first | (with_reducible first | exact HB.out | apply below_alloc | apply pw_below_drewN | apply below_drew1 | refine below_set ?_ GE376.out) | exact HB.out))⟩)
            rintro ⟨v373, gb376⟩ w15 ⟨hS_, h0_, h1_, h2_, h3_, h4_, h5_⟩
            have n0_ : Aside0 (Kd.R (Kd.int .i64) 3 w15 w.heap.size (fun k_ => (w.heap.size ≤ k_)) v373 t372) := ⟨h0_⟩
            have n1_ : Aside0 (Kd.N k60 60 w15 w.heap.size (fun k_ => (w.heap.size ≤ k_) ∧ some k_ ≠ (v373 : Value).ownBlock ∧ k_ ≠ gb376) u6 x6_2) := ⟨h1_⟩
            have n2_ : Aside0 (w15.heap[gb376]? = some (.cells #[.int .i64 0, .slice none 0 0] 60 (0, 0))) := ⟨h2_⟩
            have n3_ : Aside0 (w.heap.size ≤ gb376) := ⟨h3_⟩
            have n4_ : Aside0 (w.heap.size ≤ gb376) := ⟨h4_⟩
            have n5_ : Aside0 (Below w.heap.size w w15) := ⟨h5_⟩
            clear HO_6
            clear HB
            clear h0_ h1_ h2_ h3_ h4_ h5_
            have HO374 := n0_
            have HO_6 := n1_
            have BK376 := n2_
            have GW376 := n3_
            have GE376 := n4_
            have HB := n5_
            clear n0_ n1_ n2_ n3_ n4_ n5_
            have hHeld : w15.cell? (ad369.add ((x7_1).toNat * 2)) = some (.int .i64 ((rd_T60 l0 x7_1).f0)) ∧ w15.cell? ⟨(ad369.add ((x7_1).toNat * 2)).block, (ad369.add ((x7_1).toNat * 2)).off + 1, none⟩ = some (.slice A369_1 ((rd_T60 l0 x7_1).f1).length c369_1) ∧ w15.cell? (ad370.add ((x8_2).toNat * 2)) = some (.int .i64 ((rd_T60 l1 x8_2).f0)) ∧ w15.cell? ⟨(ad370.add ((x8_2).toNat * 2)).block, (ad370.add ((x8_2).toNat * 2)).off + 1, none⟩ = some (.slice A370_1 ((rd_T60 l1 x8_2).f1).length c370_1) := hS_
            obtain ⟨Ao17, co17, eo17⟩ := Kd.R_slice HO374.out
            (first | subst eo17 | (injection eo17 with f1_ f2_ f3_; have f4_ := f1_.symm; have f5_ := f3_.symm; clear f1_ f2_ f3_; subst f4_; subst f5_))
            refine norm_ (a' := ?_) ?_ ?_
            rotate_left
            ·simp only [putAll, Act.put, List.setIfInBounds_toArray, List.set_cons_zero, List.set_cons_succ]
             rfl
            refine one_ (i := 13) (N := none) #[true, true, true, true, true, true, true, true, true, true, true, true, true, true, false] rfl rfl (one_of HT_.out (by kernel_rfl)) (by decide) (fun K hK => ?_)
            have hs16 : w15.cell? ⟨gb376, 0, none⟩ = some (.int .i64 0) := (blk_cell BK376.out 0).trans rfl
            have hfs16 := blk_frozen BK376.out 0
            have hs18 : w15.cell? ⟨gb376, 1, none⟩ = some (.slice none 0 0) := (blk_cell BK376.out 1).trans rfl
            have hfs18 := blk_frozen BK376.out 1
            refine skip_ (w1 := ?_) (by rfl) rfl ?_ ?_
            rotate_left
            ·go_simp
             rfl
            refine hK.out _ _ ⟨((cell_far (p := ⟨gb376, _, none⟩) (by first | exact Nat.ne_of_lt (Nat.lt_of_lt_of_le (by have := World.block_lt_of_cell? _ _ hw369_0; first | rwa [add_block] at this | exact this) GW376.out) | (rw [add_block]; exact Nat.ne_of_lt (Nat.lt_of_lt_of_le (by have := World.block_lt_of_cell? _ _ hw369_0; first | rwa [add_block] at this | exact this) GW376.out)) | (show (Addr.add _ _).block ≠ _; rw [add_block]; exact Nat.ne_of_lt (Nat.lt_of_lt_of_le (by have := World.block_lt_of_cell? _ _ hw369_0; first | rwa [add_block] at this | exact this) GW376.out)) | (dsimp only; exact Nat.ne_of_lt (Nat.lt_of_lt_of_le (by have := World.block_lt_of_cell? _ _ hw369_0; first | rwa [add_block] at this | exact this) GW376.out))) _).trans (((cell_far (p := ⟨gb376, _, none⟩) (by first | exact Nat.ne_of_lt (Nat.lt_of_lt_of_le (by have := World.block_lt_of_cell? _ _ hw369_0; first | rwa [add_block] at this | exact this) GW376.out) | (rw [add_block]; exact Nat.ne_of_lt (Nat.lt_of_lt_of_le (by have := World.block_lt_of_cell? _ _ hw369_0; first | rwa [add_block] at this | exact this) GW376.out)) | (show (Addr.add _ _).block ≠ _; rw [add_block]; exact Nat.ne_of_lt (Nat.lt_of_lt_of_le (by have := World.block_lt_of_cell? _ _ hw369_0; first | rwa [add_block] at this | exact this) GW376.out)) | (dsimp only; exact Nat.ne_of_lt (Nat.lt_of_lt_of_le (by have := World.block_lt_of_cell? _ _ hw369_0; first | rwa [add_block] at this | exact this) GW376.out))) _).trans (hHeld.1)))), ((cell_far (p := ⟨gb376, _, none⟩) (by first | exact Nat.ne_of_lt (Nat.lt_of_lt_of_le (by have := World.block_lt_of_cell? _ _ hw369_1; first | rwa [add_block] at this | exact this) GW376.out) | (rw [add_block]; exact Nat.ne_of_lt (Nat.lt_of_lt_of_le (by have := World.block_lt_of_cell? _ _ hw369_1; first | rwa [add_block] at this | exact this) GW376.out)) | (show (Addr.add _ _).block ≠ _; rw [add_block]; exact Nat.ne_of_lt (Nat.lt_of_lt_of_le (by have := World.block_lt_of_cell? _ _ hw369_1; first | rwa [add_block] at this | exact this) GW376.out)) | (dsimp only; exact Nat.ne_of_lt (Nat.lt_of_lt_of_le (by have := World.block_lt_of_cell? _ _ hw369_1; first | rwa [add_block] at this | exact this) GW376.out))) _).trans (((cell_far (p := ⟨gb376, _, none⟩) (by first | exact Nat.ne_of_lt (Nat.lt_of_lt_of_le (by have := World.block_lt_of_cell? _ _ hw369_1; first | rwa [add_block] at this | exact this) GW376.out) | (rw [add_block]; exact Nat.ne_of_lt (Nat.lt_of_lt_of_le (by have := World.block_lt_of_cell? _ _ hw369_1; first | rwa [add_block] at this | exact this) GW376.out)) | (show (Addr.add _ _).block ≠ _; rw [add_block]; exact Nat.ne_of_lt (Nat.lt_of_lt_of_le (by have := World.block_lt_of_cell? _ _ hw369_1; first | rwa [add_block] at this | exact this) GW376.out)) | (dsimp only; exact Nat.ne_of_lt (Nat.lt_of_lt_of_le (by have := World.block_lt_of_cell? _ _ hw369_1; first | rwa [add_block] at this | exact this) GW376.out))) _).trans (hHeld.2.1)))), ((cell_far (p := ⟨gb376, _, none⟩) (by first | exact Nat.ne_of_lt (Nat.lt_of_lt_of_le (by have := World.block_lt_of_cell? _ _ hw370_0; first | rwa [add_block] at this | exact this) GW376.out) | (rw [add_block]; exact Nat.ne_of_lt (Nat.lt_of_lt_of_le (by have := World.block_lt_of_cell? _ _ hw370_0; first | rwa [add_block] at this | exact this) GW376.out)) | (show (Addr.add _ _).block ≠ _; rw [add_block]; exact Nat.ne_of_lt (Nat.lt_of_lt_of_le (by have := World.block_lt_of_cell? _ _ hw370_0; first | rwa [add_block] at this | exact this) GW376.out)) | (dsimp only; exact Nat.ne_of_lt (Nat.lt_of_lt_of_le (by have := World.block_lt_of_cell? _ _ hw370_0; first | rwa [add_block] at this | exact this) GW376.out))) _).trans (((cell_far (p := ⟨gb376, _, none⟩) (by first | exact Nat.ne_of_lt (Nat.lt_of_lt_of_le (by have := World.block_lt_of_cell? _ _ hw370_0; first | rwa [add_block] at this | exact this) GW376.out) | (rw [add_block]; exact Nat.ne_of_lt (Nat.lt_of_lt_of_le (by have := World.block_lt_of_cell? _ _ hw370_0; first | rwa [add_block] at this | exact this) GW376.out)) | (show (Addr.add _ _).block ≠ _; rw [add_block]; exact Nat.ne_of_lt (Nat.lt_of_lt_of_le (by have := World.block_lt_of_cell? _ _ hw370_0; first | rwa [add_block] at this | exact this) GW376.out)) | (dsimp only; exact Nat.ne_of_lt (Nat.lt_of_lt_of_le (by have := World.block_lt_of_cell? _ _ hw370_0; first | rwa [add_block] at this | exact this) GW376.out))) _).trans (hHeld.2.2.1)))), ((cell_far (p := ⟨gb376, _, none⟩) (by first | exact Nat.ne_of_lt (Nat.lt_of_lt_of_le (by have := World.block_lt_of_cell? _ _ hw370_1; first | rwa [add_block] at this | exact this) GW376.out) | (rw [add_block]; exact Nat.ne_of_lt (Nat.lt_of_lt_of_le (by have := World.block_lt_of_cell? _ _ hw370_1; first | rwa [add_block] at this | exact this) GW376.out)) | (show (Addr.add _ _).block ≠ _; rw [add_block]; exact Nat.ne_of_lt (Nat.lt_of_lt_of_le (by have := World.block_lt_of_cell? _ _ hw370_1; first | rwa [add_block] at this | exact this) GW376.out)) | (dsimp only; exact Nat.ne_of_lt (Nat.lt_of_lt_of_le (by have := World.block_lt_of_cell? _ _ hw370_1; first | rwa [add_block] at this | exact this) GW376.out))) _).trans (((cell_far (p := ⟨gb376, _, none⟩) (by first | exact Nat.ne_of_lt (Nat.lt_of_lt_of_le (by have := World.block_lt_of_cell? _ _ hw370_1; first | rwa [add_block] at this | exact this) GW376.out) | (rw [add_block]; exact Nat.ne_of_lt (Nat.lt_of_lt_of_le (by have := World.block_lt_of_cell? _ _ hw370_1; first | rwa [add_block] at this | exact this) GW376.out)) | (show (Addr.add _ _).block ≠ _; rw [add_block]; exact Nat.ne_of_lt (Nat.lt_of_lt_of_le (by have := World.block_lt_of_cell? _ _ hw370_1; first | rwa [add_block] at this | exact this) GW376.out)) | (dsimp only; exact Nat.ne_of_lt (Nat.lt_of_lt_of_le (by have := World.block_lt_of_cell? _ _ hw370_1; first | rwa [add_block] at this | exact this) GW376.out))) _).trans (hHeld.2.2.2))))⟩ (fun hHeld => ?_)
            clear hK K
            refine pure_ (i := 14) (N := some 10) (v := ?_) (a' := ?_) #[true, true, true, true, true, true, true, true, true, true, true, true, true, true, true] rfl rfl (any_of HT_.out (by kernel_rfl)) (fun _ _ _ h => h) (Or.inl ⟨by rfl, ?_⟩) ?_ ?_
            rotate_left
            ·intro w'
             go_simp
             with_reducible rfl
            rotate_left
            ·simp only [Act.put, List.setIfInBounds_toArray, List.set_cons_zero, List.set_cons_succ, i64_w, i32_w]
             rfl
            refine done_ (done_of HT_.out (by kernel_rfl)) ?_
            have n0_ : Aside0 (Kd.N k60 60 ((w15.setCell ⟨gb376, 0, none⟩ (.int .i64 t371)).setCell ⟨gb376, 1, none⟩ (.slice Ao17 t372.length co17)) w.heap.size (fun k_ => (w.heap.size ≤ k_) ∧ some k_ ≠ (.slice Ao17 t372.length co17 : Value).ownBlock ∧ k_ ≠ gb376) u6 x6_2) := ⟨by (with_reducible repeat (first | apply Kd.N_alloc | apply Kd.N_drewN | apply Kd.N_drew)); exact Kd.N_mono (Kd.N_far (p := ⟨gb376, 1, none⟩) (Kd.N_far (p := ⟨gb376, 0, none⟩) (Kd.N_mono HO_6.out (fun k_ hk => (⟨hk, hk.2.2⟩ : _ ∧ k_ ≠ gb376))) (fun _ hk => hk.2) (.int .i64 t371)) (fun _ hk => hk.2) (.slice Ao17 t372.length co17)) (fun _ hk => ⟨hk.1.1, ⟨hk.1.2.1, hk.1.2.2⟩⟩)⟩
            have n1_ : Aside0 (Kd.R (Kd.int .i64) 3 ((w15.setCell ⟨gb376, 0, none⟩ (.int .i64 t371)).setCell ⟨gb376, 1, none⟩ (.slice Ao17 t372.length co17)) w.heap.size (fun k_ => (w.heap.size ≤ k_)) (.slice Ao17 t372.length co17) t372) := ⟨by (with_reducible repeat (first | apply Kd.R_alloc | apply Kd.R_drewN | apply Kd.R_drew)); exact Kd.R_mono (Kd.R_far (p := ⟨gb376, 1, none⟩) (Kd.R_far (p := ⟨gb376, 0, none⟩) (Kd.R_types HO374.out BK376.out (by decide)) (fun _ hk => hk.2) (.int .i64 t371)) (fun _ hk => hk.2) (.slice Ao17 t372.length co17)) (fun _ hk => hk.1)⟩
            have n2_ : Aside0 (((w15.setCell ⟨gb376, 0, none⟩ (.int .i64 t371)).setCell ⟨gb376, 1, none⟩ (.slice Ao17 t372.length co17)).heap[gb376]? = some (.cells #[.int .i64 t371, .slice Ao17 t372.length co17] 60 (0, 0))) := ⟨by (with_reducible repeat (first | refine blk_drewN ?_ _ | refine blk_drew ?_ | refine blk_alloc ?_ _)); refine blk_put (cs := #[.int .i64 t371, .slice none 0 0]) ?_ 1 _ rfl; (with_reducible repeat (first | refine blk_drewN ?_ _ | refine blk_drew ?_ | refine blk_alloc ?_ _)); refine blk_put (cs := #[.int .i64 0, .slice none 0 0]) ?_ 0 _ rfl; (with_reducible repeat (first | refine blk_drewN ?_ _ | refine blk_drew ?_ | refine blk_alloc ?_ _)); exact BK376.out⟩
            have n3_ : Aside0 (Below w.heap.size w ((w15.setCell ⟨gb376, 0, none⟩ (.int .i64 t371)).setCell ⟨gb376, 1, none⟩ (.slice Ao17 t372.length co17))) := ⟨by repeat (first | (with_reducible first | exact HB.out | apply below_alloc | apply pw_below_drewN | apply below_drew1 | refine below_set ?_ GE376.out) | exact HB.out)⟩
            (try clear HO_6)
            (try clear HO374)
            (try clear BK376)
            (try clear HB)
            generalize ((w15.setCell ⟨gb376, 0, none⟩ (.int .i64 t371)).setCell ⟨gb376, 1, none⟩ (.slice Ao17 t372.length co17)) = w19 at n0_ n1_ n2_ n3_ ⊢
            have HO_6 := n0_
            have HO374 := n1_
            have BK376 := n2_
            have HB := n3_
            clear n0_ n1_ n2_ n3_
            have hcz20_0 : w19.cell? ⟨gb376, 0, none⟩ = some (.int .i64 t371) := (blk_cell BK376.out 0).trans rfl
            have hcz20_1 : w19.cell? ⟨gb376, 1, none⟩ = some (.slice Ao17 t372.length co17) := (blk_cell BK376.out 1).trans rfl
            have hfz20_0 := blk_frozen BK376.out 0
            have hfz20_1 := blk_frozen BK376.out 1
            obtain ⟨Ao21, co21, eo21⟩ := Kd.N_slice HO_6.out
            subst eo21
            try go_wp2_with (first | ((with_reducible refine gate_callee (f := 95) rfl ?_); refine goesL_ (some 42) rfl rfl Try.func95 (by kernel_rfl) rfl #[.slice Ao21 x6_2.length co21, .agg #[.int .i64 t371, .slice Ao17 t372.length co17]] rfl (by (try simp only [List.map_toArray, List.map_cons, List.map_nil]); first | done | rfl | (simp only [List.length_drop, List.length_take]; rfl)) ?_; (with_reducible refine (tenetref24_into.calls k2 (fun k_ => ((w.heap.size ≤ k_) ∧ (some k_ ≠ (.slice Ao17 t372.length co17 : Value).ownBlock ∧ k_ ≠ gb376))) _ _ x6_2 t371 (fun k_ => some k_ = (.slice Ao17 t372.length co17 : Value).ownBlock) _ _ t372 t377 true _ ?side1 ?side2 A10.out).mono ?_); (case side1 => exact Kd.N_V (HO_6.out)); (case side2 => exact Kd.R_V (Kd.R_tight rfl (Kd.R_types (Kd.R_apart' (HO374.out) (Kd.N_typed HO_6.out) (by decide)) BK376.out (by decide)))); rintro e w22 ⟨v378, rfl, ho0, hb⟩; refine ⟨_, rfl, ?_⟩; have n0_ := Aside0.mk (Kd.N_elder' (by (with_reducible repeat (first | apply Kd.N_alloc | apply Kd.N_drewN | apply Kd.N_drew)); exact HO_6.out) (by first | exact Kd.N_base ho0 | exact Kd.R_base ho0) hb); have n1_ := Aside0.mk (Kd.R_below (by (with_reducible repeat (first | apply Kd.R_alloc | apply Kd.R_drewN | apply Kd.R_drew)); exact HO374.out) hb); have n2_ := Aside0.mk (Kd.N_lower (Kd.N_mono (ok' := fun k_ => (w.heap.size ≤ k_) ∧ k_ ≠ gb376) ho0 (fun k_ hk_ => ⟨Or.elim hk_ (fun hs_ => Or.elim hs_ (fun hs_ => hs_.1) (fun hs_ => ((Kd.R_types (Kd.R_apart' (HO374.out) (Kd.N_typed HO_6.out) (by decide)) BK376.out (by decide)).1 k_ hs_.symm).1.1)) (fun hn_ => (Nat.le_trans (below_size (by repeat (first | (with_reducible first | exact HB.out | apply below_alloc | apply pw_below_drewN | apply below_drew1 | refine below_set ?_ GE376.out) | exact HB.out))) hn_)), Or.elim hk_ (fun hs_ => Or.elim hs_ (fun hs_ => hs_.2.2) (fun hs_ => ((Kd.R_types (Kd.R_apart' (HO374.out) (Kd.N_typed HO_6.out) (by decide)) BK376.out (by decide)).1 k_ hs_.symm).2)) (fun hn_ => (Kd.freshB (g := gb376) (o := .cells #[.int .i64 t371, .slice Ao17 t372.length co17] 60 (0, 0)) (by (with_reducible repeat (first | refine blk_drewN ?_ _ | refine blk_drew ?_ | refine blk_alloc ?_ _)); exact BK376.out) k_ hn_))⟩)) (below_size (by repeat (first | (with_reducible first | exact HB.out | apply below_alloc | apply pw_below_drewN | apply below_drew1 | refine below_set ?_ GE376.out) | exact HB.out)))); have n3_ := Aside0.mk (blk_below (g := gb376) (o := .cells #[.int .i64 t371, .slice Ao17 t372.length co17] 60 (0, 0)) (by (with_reducible repeat (first | refine blk_drewN ?_ _ | refine blk_drew ?_ | refine blk_alloc ?_ _)); exact BK376.out) hb); have n4_ := Aside0.mk (below_step (by repeat (first | (with_reducible first | exact HB.out | apply below_alloc | apply pw_below_drewN | apply below_drew1 | refine below_set ?_ GE376.out) | exact HB.out)) hb); clear HO_6; clear HO374; clear BK376; clear HB; have HO_6 := n0_; have HO374 := n1_; have HO379 := n2_; have BK376 := n3_; have HB := n4_; clear n0_ n1_ n2_ n3_ n4_; (try clear hb); (try clear hb2); (try clear hk); (try clear hi); (try clear ho0)))
            go_roundg k2
            case measure => have := HK1.out; have := HK2.out; omega
            case rel => exact ⟨(t377), (wrap64 (x8_2 + 1)), (by first | rfl | (simp; done) | (simp [*]; done)), H', ⟨by have := HK1.out; have := HK2.out; omega⟩, ⟨by (with_reducible repeat (first | apply Kd.N_alloc | apply Kd.N_drewN | apply Kd.N_drew)); exact Kd.N_mono HO379.out (fun _ hk => hk.1)⟩, ⟨by repeat (first | (with_reducible first | exact HB.out | apply below_alloc | apply pw_below_drewN | apply below_drew1 | refine below_set ?_ GE376.out) | exact HB.out)⟩⟩
           ·replace c11 := Bool.eq_false_iff.mpr c11
            subst c11
            have H1 : (some (([] : List (S60)), false)) = some (r1, r2) := by rw [if_neg (show ¬ (false = true) by decide)] at H; exact H
            clear H
            have H := H1
            clear H1
            simp only [Option.some.injEq, Prod.mk.injEq] at H
            obtain ⟨rfl, rfl⟩ := H
            try go_wp2
            have n0_ := Aside0.mk (Kd.N_drew HO_6.out)
            have n1_ := Aside0.mk (below_drew1 HB.out)
            clear HO_6
            clear HB
            have HO_6 := n0_
            have HB := n1_
            clear n0_ n1_
            have p369 : 0 ≤ (x7_1 : Int) := of_decide_eq_true (by first | (with_reducible assumption) | assumption)
            have q369 : x7_1 < (l0.length : Int) := of_decide_eq_true (by first | (with_reducible assumption) | assumption)
            obtain ⟨ad369, A369_1, c369_1, e369, hx369_0, hx369_1, hl369_1, hi369_1⟩ := at_T60 HR0.out x7_1 p369 q369
            have hw369_1 := hx369_1
            have hw369_0 := hx369_0
            cases e369
            replace hx369_0 := (HB.out.cell (World.block_lt_of_cell? w _ hx369_0)).trans hx369_0
            replace hx369_1 := (HB.out.cell (World.block_lt_of_cell? w _ hx369_1)).trans hx369_1
            have HR369_1 := Aside0.mk hi369_1
            have HC369_1 := Aside0.mk hl369_1
            clear hi369_1 hl369_1
            replace p369 := eq_true p369
            replace q369 := eq_true q369
            have p370 : 0 ≤ (x8_2 : Int) := of_decide_eq_true (by first | (with_reducible assumption) | assumption)
            have q370 : x8_2 < (l1.length : Int) := of_decide_eq_true (by first | (with_reducible assumption) | assumption)
            obtain ⟨ad370, A370_1, c370_1, e370, hx370_0, hx370_1, hl370_1, hi370_1⟩ := at_T60 HR1.out x8_2 p370 q370
            have hw370_1 := hx370_1
            have hw370_0 := hx370_0
            cases e370
            replace hx370_0 := (HB.out.cell (World.block_lt_of_cell? w _ hx370_0)).trans hx370_0
            replace hx370_1 := (HB.out.cell (World.block_lt_of_cell? w _ hx370_1)).trans hx370_1
            have HR370_1 := Aside0.mk hi370_1
            have HC370_1 := Aside0.mk hl370_1
            clear hi370_1 hl370_1
            replace p370 := eq_true p370
            replace q370 := eq_true q370
            refine start_ (n := 15) (S := fun w' => w'.cell? (ad369.add ((x7_1).toNat * 2)) = some (.int .i64 ((rd_T60 l0 x7_1).f0)) ∧ w'.cell? ⟨(ad369.add ((x7_1).toNat * 2)).block, (ad369.add ((x7_1).toNat * 2)).off + 1, none⟩ = some (.slice A369_1 ((rd_T60 l0 x7_1).f1).length c369_1) ∧ w'.cell? (ad370.add ((x8_2).toNat * 2)) = some (.int .i64 ((rd_T60 l1 x8_2).f0)) ∧ w'.cell? ⟨(ad370.add ((x8_2).toNat * 2)).block, (ad370.add ((x8_2).toNat * 2)).off + 1, none⟩ = some (.slice A370_1 ((rd_T60 l1 x8_2).f1).length c370_1)) (ds := []) #[false, false, false, false, false, false, false, false, false, false, false, false, false, false, false] (by kernel_rfl) rfl rfl ⟨((HB.out.cell (World.block_lt_of_cell? w _ hw369_0)).trans hw369_0), ((HB.out.cell (World.block_lt_of_cell? w _ hw369_1)).trans hw369_1), ((HB.out.cell (World.block_lt_of_cell? w _ hw370_0)).trans hw370_0), ((HB.out.cell (World.block_lt_of_cell? w _ hw370_1)).trans hw370_1)⟩ (fun hHeld => ?_); refine with_tabW tenetref24_mul.tab8 tenetref24_mul.bits8 (fun HT_ HW_ => ?_)
            generalize wr.drew = w23 at HO_6 HB HR369_1 HR370_1 hx369_0 hx369_1 hx370_0 hx370_1 hHeld ⊢
            refine pure_ (i := 0) (N := some 26) (v := ?_) (a' := ?_) #[true, false, false, false, false, false, false, false, false, false, false, false, false, false, false] rfl rfl (any_of HT_.out (by kernel_rfl)) (fun _ _ _ h => h) (Or.inl ⟨by rfl, ?_⟩) ?_ ?_
            rotate_left
            ·intro w'
             go_simp
             with_reducible rfl
            rotate_left
            ·simp only [Act.put, List.setIfInBounds_toArray, List.set_cons_zero, List.set_cons_succ, i64_w, i32_w]
             rfl
            refine pure_ (i := 1) (N := some 27) (v := ?_) (a' := ?_) #[true, true, false, false, false, false, false, false, false, false, false, false, false, false, false] rfl rfl (any_of HT_.out (by kernel_rfl)) (fun _ _ _ h => h) (Or.inl ⟨by rfl, ?_⟩) ?_ ?_
            rotate_left
            ·intro w'
             go_simp
             with_reducible rfl
            rotate_left
            ·simp only [Act.put, List.setIfInBounds_toArray, List.set_cons_zero, List.set_cons_succ, i64_w, i32_w]
             rfl
            refine pure_ (i := 2) (N := some 28) (v := ?_) (a' := ?_) #[true, true, true, false, false, false, false, false, false, false, false, false, false, false, false] rfl rfl (any_of HT_.out (by kernel_rfl)) (fun _ _ _ h => h) (Or.inl ⟨by rfl, ?_⟩) ?_ ?_
            rotate_left
            ·intro w'
             go_simp
             with_reducible rfl
            rotate_left
            ·simp only [Act.put, List.setIfInBounds_toArray, List.set_cons_zero, List.set_cons_succ, i64_w, i32_w]
             rfl
            refine pure_ (i := 4) (N := some 30) (v := ?_) (a' := ?_) #[true, true, true, false, true, false, false, false, false, false, false, false, false, false, false] rfl rfl (any_of HT_.out (by kernel_rfl)) (fun _ _ _ h => h) (Or.inl ⟨by rfl, ?_⟩) ?_ ?_
            rotate_left
            ·intro w'
             go_simp
             with_reducible rfl
            rotate_left
            ·simp only [Act.put, List.setIfInBounds_toArray, List.set_cons_zero, List.set_cons_succ, i64_w, i32_w]
             rfl
            refine pure_ (i := 5) (N := some 31) (v := ?_) (a' := ?_) #[true, true, true, false, true, true, false, false, false, false, false, false, false, false, false] rfl rfl (any_of HT_.out (by kernel_rfl)) (fun _ _ _ h => h) (Or.inl ⟨by rfl, ?_⟩) ?_ ?_
            rotate_left
            ·intro w'
             go_simp
             with_reducible rfl
            rotate_left
            ·simp only [Act.put, List.setIfInBounds_toArray, List.set_cons_zero, List.set_cons_succ, i64_w, i32_w]
             rfl
            refine pure_ (i := 6) (N := some 32) (v := ?_) (a' := ?_) #[true, true, true, false, true, true, true, false, false, false, false, false, false, false, false] rfl rfl (any_of HT_.out (by kernel_rfl)) (fun _ _ _ h => h) (Or.inl ⟨by rfl, ?_⟩) ?_ ?_
            rotate_left
            ·intro w'
             go_simp
             with_reducible rfl
            rotate_left
            ·simp only [Act.put, List.setIfInBounds_toArray, List.set_cons_zero, List.set_cons_succ, i64_w, i32_w]
             rfl
            refine take_ (i := 3) (N := some 29) (v := ?_) (a' := ?_) #[true, true, true, true, true, true, true, false, false, false, false, false, false, false, false] rfl rfl (take_ofW HT_.out HW_.out (by kernel_rfl)) (fun _ _ _ h => h) (Or.inl ⟨by rfl, ?_⟩) hHeld ?_ ?_
            rotate_left
            ·rintro w' ⟨s0, s1, s2, s3⟩
             go_simp
             with_reducible rfl
            rotate_left
            ·simp only [Act.put, List.setIfInBounds_toArray, List.set_cons_zero, List.set_cons_succ, i64_w, i32_w]
             rfl
            refine take_ (i := 7) (N := some 33) (v := ?_) (a' := ?_) #[true, true, true, true, true, true, true, true, false, false, false, false, false, false, false] rfl rfl (take_ofW HT_.out HW_.out (by kernel_rfl)) (fun _ _ _ h => h) (Or.inl ⟨by rfl, ?_⟩) hHeld ?_ ?_
            rotate_left
            ·rintro w' ⟨s0, s1, s2, s3⟩
             go_simp
             with_reducible rfl
            rotate_left
            ·simp only [Act.put, List.setIfInBounds_toArray, List.set_cons_zero, List.set_cons_succ, i64_w, i32_w]
             rfl
            refine join_ (σ := Value × Nat) 2 #[true, true, true, true, true, true, true, true, true, true, true, true, true, false, false] (fun s_ => [(34, .tuple #[.agg #[.int .i64 t371, s_.1], .bool true]), (9, .pointer (some ⟨s_.2, 0, none⟩)), (25, .tuple #[.agg #[.int .i64 t371, s_.1], .bool true]), (35, .agg #[.int .i64 t371, s_.1]), (36, .bool true)]) (fun s_ w' => (w'.cell? (ad369.add ((x7_1).toNat * 2)) = some (.int .i64 ((rd_T60 l0 x7_1).f0)) ∧ w'.cell? ⟨(ad369.add ((x7_1).toNat * 2)).block, (ad369.add ((x7_1).toNat * 2)).off + 1, none⟩ = some (.slice A369_1 ((rd_T60 l0 x7_1).f1).length c369_1) ∧ w'.cell? (ad370.add ((x8_2).toNat * 2)) = some (.int .i64 ((rd_T60 l1 x8_2).f0)) ∧ w'.cell? ⟨(ad370.add ((x8_2).toNat * 2)).block, (ad370.add ((x8_2).toNat * 2)).off + 1, none⟩ = some (.slice A370_1 ((rd_T60 l1 x8_2).f1).length c370_1)) ∧ (Kd.R (Kd.int .i64) 3 w' w.heap.size (fun k_ => (w.heap.size ≤ k_)) s_.1 t372) ∧ (Kd.N k60 60 w' w.heap.size (fun k_ => (w.heap.size ≤ k_) ∧ some k_ ≠ (s_.1 : Value).ownBlock ∧ k_ ≠ s_.2) u6 x6_2) ∧ (w'.heap[s_.2]? = some (.cells #[.int .i64 0, .slice none 0 0] 60 (0, 0))) ∧ (w.heap.size ≤ s_.2) ∧ (w.heap.size ≤ s_.2) ∧ (Below w.heap.size w w')) ?_ ?_
            rotate_left
            ·intro hCont
             refine two_ (i := 8) (j := 12) (Ni := some 34) (Nj := some 9) #[true, true, true, true, true, true, true, true, true, false, false, false, false, false, false] #[true, true, true, true, true, true, true, true, false, false, false, false, true, false, false] rfl rfl rfl rfl (two_of HT_.out (by kernel_rfl)) (by decide) (by decide) (fun K hK => ?_) (fun K hK => ?_)
             ·skip
              refine goes_ Try.func97 (by kernel_rfl) rfl #[.agg #[.int .i64 ((rd_T60 l0 x7_1).f0), .slice A369_1 ((rd_T60 l0 x7_1).f1).length c369_1], .agg #[.int .i64 ((rd_T60 l1 x8_2).f0), .slice A370_1 ((rd_T60 l1 x8_2).f1).length c370_1]] (by rfl) rfl rfl (by (try simp only [List.map_toArray, List.map_cons, List.map_nil]); first | done | rfl | (simp only [List.length_drop, List.length_take]; rfl)) ?_
              with_reducible refine (tenetref24_times.calls k2 ((rd_T60 l0 x7_1).f0) _ _ ((rd_T60 l0 x7_1).f1) ((rd_T60 l1 x8_2).f0) _ _ ((rd_T60 l1 x8_2).f1) t371 t372 true _ ?side1 ?side2 ?side3 ?side4 A8.out).mono ?_
              (case side1 => repeat (first | exact (Kd.C_below HR369_1.out HB.out) | (with_reducible refine Kd.C_alloc ?_ _) | (with_reducible refine Kd.C_drewN ?_ _) | (with_reducible refine Kd.C_drew ?_)))
              (case side2 => exact HC369_1.out)
              (case side3 => repeat (first | exact (Kd.C_below HR370_1.out HB.out) | (with_reducible refine Kd.C_alloc ?_ _) | (with_reducible refine Kd.C_drewN ?_ _) | (with_reducible refine Kd.C_drew ?_)))
              (case side4 => exact HC370_1.out)
              rintro e w24 ⟨v373, rfl, ho0, hb⟩
              refine ⟨_, rfl, ?_⟩
              have n0_ := Aside0.mk (Kd.N_elder' (by (with_reducible repeat (first | apply Kd.N_alloc | apply Kd.N_drewN | apply Kd.N_drew)); exact HO_6.out) (Kd.R_base ho0) hb)
              have n1_ := Aside0.mk (Kd.R_lower (Kd.R_newM (M := fun k_ => (w.heap.size ≤ k_)) ho0 (below_size (by repeat (first | (with_reducible first | exact HB.out | apply below_alloc | apply pw_below_drewN | apply below_drew1) | exact HB.out))) (fun k_ h_ => h_)) (below_size (by repeat (first | (with_reducible first | exact HB.out | apply below_alloc | apply pw_below_drewN | apply below_drew1) | exact HB.out))))
              have n2_ := Aside0.mk (below_step (by repeat (first | (with_reducible first | exact HB.out | apply below_alloc | apply pw_below_drewN | apply below_drew1) | exact HB.out)) hb)
              clear HO_6
              clear HB
              have HO_6 := n0_
              have HO374 := n1_
              have HB := n2_
              clear n0_ n1_ n2_
              (try clear hb)
              (try clear hb2)
              (try clear hk)
              (try clear hi)
              (try clear ho0)
              refine hK.out _ _ ⟨((HB.out.cell (World.block_lt_of_cell? w _ hw369_0)).trans hw369_0), ((HB.out.cell (World.block_lt_of_cell? w _ hw369_1)).trans hw369_1), ((HB.out.cell (World.block_lt_of_cell? w _ hw370_0)).trans hw370_0), ((HB.out.cell (World.block_lt_of_cell? w _ hw370_1)).trans hw370_1)⟩ (fun hHeld => ?_)
              clear hK K
              refine norm_ (a' := ?_) ?_ ?_
              rotate_left
              ·show Act.put _ (some 34) _ = _
               simp only [Act.put, List.setIfInBounds_toArray, List.set_cons_zero, List.set_cons_succ, i64_w, i32_w]
               rfl
              refine pure_ (i := 9) (N := some 25) (v := ?_) (a' := ?_) #[true, true, true, true, true, true, true, true, true, true, false, false, false, false, false] rfl rfl (any_of HT_.out (by kernel_rfl)) (fun _ _ _ h => h) (Or.inl ⟨by rfl, ?_⟩) ?_ ?_
              rotate_left
              ·intro w'
               go_simp
               with_reducible rfl
              rotate_left
              ·simp only [Act.put, List.setIfInBounds_toArray, List.set_cons_zero, List.set_cons_succ, i64_w, i32_w]
               rfl
              refine pure_ (i := 10) (N := some 35) (v := ?_) (a' := ?_) #[true, true, true, true, true, true, true, true, true, true, true, false, false, false, false] rfl rfl (any_of HT_.out (by kernel_rfl)) (fun _ _ _ h => h) (Or.inl ⟨by rfl, ?_⟩) ?_ ?_
              rotate_left
              ·intro w'
               go_simp
               with_reducible rfl
              rotate_left
              ·simp only [Act.put, List.setIfInBounds_toArray, List.set_cons_zero, List.set_cons_succ, i64_w, i32_w]
               rfl
              refine pure_ (i := 11) (N := some 36) (v := ?_) (a' := ?_) #[true, true, true, true, true, true, true, true, true, true, true, true, false, false, false] rfl rfl (any_of HT_.out (by kernel_rfl)) (fun _ _ _ h => h) (Or.inl ⟨by rfl, ?_⟩) ?_ ?_
              rotate_left
              ·intro w'
               go_simp
               with_reducible rfl
              rotate_left
              ·simp only [Act.put, List.setIfInBounds_toArray, List.set_cons_zero, List.set_cons_succ, i64_w, i32_w]
               rfl
              refine one_ (i := 12) (N := some 9) #[true, true, true, true, true, true, true, true, true, true, true, true, true, false, false] rfl rfl (one_of HT_.out (by kernel_rfl)) (by decide) (fun K hK => ?_)
              refine box_step ?hg (N := 9) ?hd (cs := #[.int .i64 0, .slice none 0 0]) (t := 60) ?hr ?_; (case hd => rfl); (case hg => rfl); (case hr => first | (go_simp; done) | (go_simp; rfl))
              intro gb376 hg w25 hbox hb
              have n0_ := Aside0.mk (Kd.N_below (Kd.N_elderB (by (with_reducible repeat (first | apply Kd.N_alloc | apply Kd.N_drewN | apply Kd.N_drew)); exact HO_6.out) gb376 (Nat.le_of_eq hg.symm)) hb)
              have n1_ := Aside0.mk (Kd.R_below (by (with_reducible repeat (first | apply Kd.R_alloc | apply Kd.R_drewN | apply Kd.R_drew)); exact HO374.out) hb)
              have n2_ := Aside0.mk (below_step (by repeat (first | (with_reducible first | exact HB.out | apply below_alloc | apply pw_below_drewN | apply below_drew1) | exact HB.out)) hb)
              have n3_ := Aside0.mk (hbox)
              have n4_ := Aside0.mk ((by rw [hg]; exact (below_size (by repeat (first | (with_reducible first | exact HB.out | apply below_alloc | apply pw_below_drewN | apply below_drew1) | exact HB.out))) : w.heap.size ≤ gb376))
              have n5_ := Aside0.mk ((by rw [hg]; exact (below_size (by repeat (first | (with_reducible first | exact HB.out | apply below_alloc | apply pw_below_drewN | apply below_drew1) | exact HB.out))) : w.heap.size ≤ gb376))
              clear HO_6
              clear HO374
              clear HB
              have HO_6 := n0_
              have HO374 := n1_
              have HB := n2_
              have BK376 := n3_
              have GW376 := n4_
              have GE376 := n5_
              clear n0_ n1_ n2_ n3_ n4_ n5_
              clear hb hbox hg
              refine hK.out _ _ ⟨((HB.out.cell (World.block_lt_of_cell? w _ hw369_0)).trans hw369_0), ((HB.out.cell (World.block_lt_of_cell? w _ hw369_1)).trans hw369_1), ((HB.out.cell (World.block_lt_of_cell? w _ hw370_0)).trans hw370_0), ((HB.out.cell (World.block_lt_of_cell? w _ hw370_1)).trans hw370_1)⟩ (fun hHeld => ?_)
              clear hK K
              refine norm_ (a' := ?_) ?_ ?_
              rotate_left
              ·show Act.put _ (some 9) _ = _
               simp only [Act.put, List.setIfInBounds_toArray, List.set_cons_zero, List.set_cons_succ, i64_w, i32_w]
               rfl
              exact norm_ (by simp only [putAll, Act.put, List.setIfInBounds_toArray, List.set_cons_zero, List.set_cons_succ]) (hCont (v373, gb376) _ ⟨hHeld, (by (with_reducible repeat (first | apply Kd.R_alloc | apply Kd.R_drewN | apply Kd.R_drew)); exact Kd.R_mono HO374.out (fun _ hk => hk.1)), (by (with_reducible repeat (first | apply Kd.N_alloc | apply Kd.N_drewN | apply Kd.N_drew)); exact Kd.N_mono HO_6.out (fun _ hk => ⟨hk.1.1, ⟨hk.1.2, hk.2⟩⟩)), (by (with_reducible repeat (first | refine blk_drewN ?_ _ | refine blk_drew ?_ | refine blk_alloc ?_ _)); exact BK376.out), GW376.out, GE376.out, (by repeat (first | (with_reducible first | exact HB.out | apply below_alloc | apply pw_below_drewN | apply below_drew1 | refine below_set ?_ GE376.out) | exact HB.out))⟩)
             ·skip
              refine box_step ?hg (N := 9) ?hd (cs := #[.int .i64 0, .slice none 0 0]) (t := 60) ?hr ?_; (case hd => rfl); (case hg => rfl); (case hr => first | (go_simp; done) | (go_simp; rfl))
              intro gb376 hg w24 hbox hb
              have n0_ := Aside0.mk (Kd.N_below (Kd.N_elderB (by (with_reducible repeat (first | apply Kd.N_alloc | apply Kd.N_drewN | apply Kd.N_drew)); exact HO_6.out) gb376 (Nat.le_of_eq hg.symm)) hb)
              have n1_ := Aside0.mk (below_step (by repeat (first | (with_reducible first | exact HB.out | apply below_alloc | apply pw_below_drewN | apply below_drew1) | exact HB.out)) hb)
              have n2_ := Aside0.mk (hbox)
              have n3_ := Aside0.mk ((by rw [hg]; exact (below_size (by repeat (first | (with_reducible first | exact HB.out | apply below_alloc | apply pw_below_drewN | apply below_drew1) | exact HB.out))) : w.heap.size ≤ gb376))
              have n4_ := Aside0.mk ((by rw [hg]; exact (below_size (by repeat (first | (with_reducible first | exact HB.out | apply below_alloc | apply pw_below_drewN | apply below_drew1) | exact HB.out))) : w.heap.size ≤ gb376))
              clear HO_6
              clear HB
              have HO_6 := n0_
              have HB := n1_
              have BK376 := n2_
              have GW376 := n3_
              have GE376 := n4_
              clear n0_ n1_ n2_ n3_ n4_
              clear hb hbox hg
              refine hK.out _ _ ⟨((HB.out.cell (World.block_lt_of_cell? w _ hw369_0)).trans hw369_0), ((HB.out.cell (World.block_lt_of_cell? w _ hw369_1)).trans hw369_1), ((HB.out.cell (World.block_lt_of_cell? w _ hw370_0)).trans hw370_0), ((HB.out.cell (World.block_lt_of_cell? w _ hw370_1)).trans hw370_1)⟩ (fun hHeld => ?_)
              clear hK K
              refine norm_ (a' := ?_) ?_ ?_
              rotate_left
              ·show Act.put _ (some 9) _ = _
               simp only [Act.put, List.setIfInBounds_toArray, List.set_cons_zero, List.set_cons_succ, i64_w, i32_w]
               rfl
              refine one_ (i := 8) (N := some 34) #[true, true, true, true, true, true, true, true, true, false, false, false, true, false, false] rfl rfl (one_of HT_.out (by kernel_rfl)) (by decide) (fun K hK => ?_)
              refine goes_ Try.func97 (by kernel_rfl) rfl #[.agg #[.int .i64 ((rd_T60 l0 x7_1).f0), .slice A369_1 ((rd_T60 l0 x7_1).f1).length c369_1], .agg #[.int .i64 ((rd_T60 l1 x8_2).f0), .slice A370_1 ((rd_T60 l1 x8_2).f1).length c370_1]] (by rfl) rfl rfl (by (try simp only [List.map_toArray, List.map_cons, List.map_nil]); first | done | rfl | (simp only [List.length_drop, List.length_take]; rfl)) ?_
              with_reducible refine (tenetref24_times.calls k2 ((rd_T60 l0 x7_1).f0) _ _ ((rd_T60 l0 x7_1).f1) ((rd_T60 l1 x8_2).f0) _ _ ((rd_T60 l1 x8_2).f1) t371 t372 true _ ?side1 ?side2 ?side3 ?side4 A8.out).mono ?_
              (case side1 => repeat (first | exact (Kd.C_below HR369_1.out HB.out) | (with_reducible refine Kd.C_alloc ?_ _) | (with_reducible refine Kd.C_drewN ?_ _) | (with_reducible refine Kd.C_drew ?_)))
              (case side2 => exact HC369_1.out)
              (case side3 => repeat (first | exact (Kd.C_below HR370_1.out HB.out) | (with_reducible refine Kd.C_alloc ?_ _) | (with_reducible refine Kd.C_drewN ?_ _) | (with_reducible refine Kd.C_drew ?_)))
              (case side4 => exact HC370_1.out)
              rintro e w25 ⟨v373, rfl, ho0, hb⟩
              refine ⟨_, rfl, ?_⟩
              have n0_ := Aside0.mk (Kd.N_elder' (by (with_reducible repeat (first | apply Kd.N_alloc | apply Kd.N_drewN | apply Kd.N_drew)); exact HO_6.out) (Kd.R_base ho0) hb)
              have n1_ := Aside0.mk (Kd.R_lower (Kd.R_newM (M := fun k_ => (w.heap.size ≤ k_)) ho0 (below_size (by repeat (first | (with_reducible first | exact HB.out | apply below_alloc | apply pw_below_drewN | apply below_drew1 | refine below_set ?_ GE376.out) | exact HB.out))) (fun k_ h_ => h_)) (below_size (by repeat (first | (with_reducible first | exact HB.out | apply below_alloc | apply pw_below_drewN | apply below_drew1 | refine below_set ?_ GE376.out) | exact HB.out))))
              have n2_ := Aside0.mk (blk_below (g := gb376) (o := .cells #[.int .i64 0, .slice none 0 0] 60 (0, 0)) (by (with_reducible repeat (first | refine blk_drewN ?_ _ | refine blk_drew ?_ | refine blk_alloc ?_ _)); exact BK376.out) hb)
              have n3_ := Aside0.mk (below_step (by repeat (first | (with_reducible first | exact HB.out | apply below_alloc | apply pw_below_drewN | apply below_drew1 | refine below_set ?_ GE376.out) | exact HB.out)) hb)
              clear HO_6
              clear BK376
              clear HB
              have HO_6 := n0_
              have HO374 := n1_
              have BK376 := n2_
              have HB := n3_
              clear n0_ n1_ n2_ n3_
              (try clear hb)
              (try clear hb2)
              (try clear hk)
              (try clear hi)
              (try clear ho0)
              refine hK.out _ _ ⟨((HB.out.cell (World.block_lt_of_cell? w _ hw369_0)).trans hw369_0), ((HB.out.cell (World.block_lt_of_cell? w _ hw369_1)).trans hw369_1), ((HB.out.cell (World.block_lt_of_cell? w _ hw370_0)).trans hw370_0), ((HB.out.cell (World.block_lt_of_cell? w _ hw370_1)).trans hw370_1)⟩ (fun hHeld => ?_)
              clear hK K
              refine norm_ (a' := ?_) ?_ ?_
              rotate_left
              ·show Act.put _ (some 34) _ = _
               simp only [Act.put, List.setIfInBounds_toArray, List.set_cons_zero, List.set_cons_succ, i64_w, i32_w]
               rfl
              refine pure_ (i := 9) (N := some 25) (v := ?_) (a' := ?_) #[true, true, true, true, true, true, true, true, true, true, false, false, true, false, false] rfl rfl (any_of HT_.out (by kernel_rfl)) (fun _ _ _ h => h) (Or.inl ⟨by rfl, ?_⟩) ?_ ?_
              rotate_left
              ·intro w'
               go_simp
               with_reducible rfl
              rotate_left
              ·simp only [Act.put, List.setIfInBounds_toArray, List.set_cons_zero, List.set_cons_succ, i64_w, i32_w]
               rfl
              refine pure_ (i := 10) (N := some 35) (v := ?_) (a' := ?_) #[true, true, true, true, true, true, true, true, true, true, true, false, true, false, false] rfl rfl (any_of HT_.out (by kernel_rfl)) (fun _ _ _ h => h) (Or.inl ⟨by rfl, ?_⟩) ?_ ?_
              rotate_left
              ·intro w'
               go_simp
               with_reducible rfl
              rotate_left
              ·simp only [Act.put, List.setIfInBounds_toArray, List.set_cons_zero, List.set_cons_succ, i64_w, i32_w]
               rfl
              refine pure_ (i := 11) (N := some 36) (v := ?_) (a' := ?_) #[true, true, true, true, true, true, true, true, true, true, true, true, true, false, false] rfl rfl (any_of HT_.out (by kernel_rfl)) (fun _ _ _ h => h) (Or.inl ⟨by rfl, ?_⟩) ?_ ?_
              rotate_left
              ·intro w'
               go_simp
               with_reducible rfl
              rotate_left
              ·simp only [Act.put, List.setIfInBounds_toArray, List.set_cons_zero, List.set_cons_succ, i64_w, i32_w]
               rfl
              exact norm_ (by simp only [putAll, Act.put, List.setIfInBounds_toArray, List.set_cons_zero, List.set_cons_succ]) (hCont (v373, gb376) _ ⟨hHeld, (by (with_reducible repeat (first | apply Kd.R_alloc | apply Kd.R_drewN | apply Kd.R_drew)); exact Kd.R_mono HO374.out (fun _ hk => hk.1)), (by (with_reducible repeat (first | apply Kd.N_alloc | apply Kd.N_drewN | apply Kd.N_drew)); exact Kd.N_mono HO_6.out (fun _ hk => ⟨hk.1.1, ⟨hk.2, hk.1.2⟩⟩)), (by (with_reducible repeat (first | refine blk_drewN ?_ _ | refine blk_drew ?_ | refine blk_alloc ?_ _)); exact BK376.out), GW376.out, GE376.out, (by repeat (first | (with_reducible first | exact HB.out | apply below_alloc | apply pw_below_drewN | apply below_drew1 | refine below_set ?_ GE376.out) | exact HB.out))⟩)
            rintro ⟨v373, gb376⟩ w26 ⟨hS_, h0_, h1_, h2_, h3_, h4_, h5_⟩
            have n0_ : Aside0 (Kd.R (Kd.int .i64) 3 w26 w.heap.size (fun k_ => (w.heap.size ≤ k_)) v373 t372) := ⟨h0_⟩
            have n1_ : Aside0 (Kd.N k60 60 w26 w.heap.size (fun k_ => (w.heap.size ≤ k_) ∧ some k_ ≠ (v373 : Value).ownBlock ∧ k_ ≠ gb376) u6 x6_2) := ⟨h1_⟩
            have n2_ : Aside0 (w26.heap[gb376]? = some (.cells #[.int .i64 0, .slice none 0 0] 60 (0, 0))) := ⟨h2_⟩
            have n3_ : Aside0 (w.heap.size ≤ gb376) := ⟨h3_⟩
            have n4_ : Aside0 (w.heap.size ≤ gb376) := ⟨h4_⟩
            have n5_ : Aside0 (Below w.heap.size w w26) := ⟨h5_⟩
            clear HO_6
            clear HB
            clear h0_ h1_ h2_ h3_ h4_ h5_
            have HO374 := n0_
            have HO_6 := n1_
            have BK376 := n2_
            have GW376 := n3_
            have GE376 := n4_
            have HB := n5_
            clear n0_ n1_ n2_ n3_ n4_ n5_
            have hHeld : w26.cell? (ad369.add ((x7_1).toNat * 2)) = some (.int .i64 ((rd_T60 l0 x7_1).f0)) ∧ w26.cell? ⟨(ad369.add ((x7_1).toNat * 2)).block, (ad369.add ((x7_1).toNat * 2)).off + 1, none⟩ = some (.slice A369_1 ((rd_T60 l0 x7_1).f1).length c369_1) ∧ w26.cell? (ad370.add ((x8_2).toNat * 2)) = some (.int .i64 ((rd_T60 l1 x8_2).f0)) ∧ w26.cell? ⟨(ad370.add ((x8_2).toNat * 2)).block, (ad370.add ((x8_2).toNat * 2)).off + 1, none⟩ = some (.slice A370_1 ((rd_T60 l1 x8_2).f1).length c370_1) := hS_
            obtain ⟨Ao28, co28, eo28⟩ := Kd.R_slice HO374.out
            (first | subst eo28 | (injection eo28 with f1_ f2_ f3_; have f4_ := f1_.symm; have f5_ := f3_.symm; clear f1_ f2_ f3_; subst f4_; subst f5_))
            refine norm_ (a' := ?_) ?_ ?_
            rotate_left
            ·simp only [putAll, Act.put, List.setIfInBounds_toArray, List.set_cons_zero, List.set_cons_succ]
             rfl
            refine one_ (i := 13) (N := none) #[true, true, true, true, true, true, true, true, true, true, true, true, true, true, false] rfl rfl (one_of HT_.out (by kernel_rfl)) (by decide) (fun K hK => ?_)
            have hs27 : w26.cell? ⟨gb376, 0, none⟩ = some (.int .i64 0) := (blk_cell BK376.out 0).trans rfl
            have hfs27 := blk_frozen BK376.out 0
            have hs29 : w26.cell? ⟨gb376, 1, none⟩ = some (.slice none 0 0) := (blk_cell BK376.out 1).trans rfl
            have hfs29 := blk_frozen BK376.out 1
            refine skip_ (w1 := ?_) (by rfl) rfl ?_ ?_
            rotate_left
            ·go_simp
             rfl
            refine hK.out _ _ ⟨((cell_far (p := ⟨gb376, _, none⟩) (by first | exact Nat.ne_of_lt (Nat.lt_of_lt_of_le (by have := World.block_lt_of_cell? _ _ hw369_0; first | rwa [add_block] at this | exact this) GW376.out) | (rw [add_block]; exact Nat.ne_of_lt (Nat.lt_of_lt_of_le (by have := World.block_lt_of_cell? _ _ hw369_0; first | rwa [add_block] at this | exact this) GW376.out)) | (show (Addr.add _ _).block ≠ _; rw [add_block]; exact Nat.ne_of_lt (Nat.lt_of_lt_of_le (by have := World.block_lt_of_cell? _ _ hw369_0; first | rwa [add_block] at this | exact this) GW376.out)) | (dsimp only; exact Nat.ne_of_lt (Nat.lt_of_lt_of_le (by have := World.block_lt_of_cell? _ _ hw369_0; first | rwa [add_block] at this | exact this) GW376.out))) _).trans (((cell_far (p := ⟨gb376, _, none⟩) (by first | exact Nat.ne_of_lt (Nat.lt_of_lt_of_le (by have := World.block_lt_of_cell? _ _ hw369_0; first | rwa [add_block] at this | exact this) GW376.out) | (rw [add_block]; exact Nat.ne_of_lt (Nat.lt_of_lt_of_le (by have := World.block_lt_of_cell? _ _ hw369_0; first | rwa [add_block] at this | exact this) GW376.out)) | (show (Addr.add _ _).block ≠ _; rw [add_block]; exact Nat.ne_of_lt (Nat.lt_of_lt_of_le (by have := World.block_lt_of_cell? _ _ hw369_0; first | rwa [add_block] at this | exact this) GW376.out)) | (dsimp only; exact Nat.ne_of_lt (Nat.lt_of_lt_of_le (by have := World.block_lt_of_cell? _ _ hw369_0; first | rwa [add_block] at this | exact this) GW376.out))) _).trans (hHeld.1)))), ((cell_far (p := ⟨gb376, _, none⟩) (by first | exact Nat.ne_of_lt (Nat.lt_of_lt_of_le (by have := World.block_lt_of_cell? _ _ hw369_1; first | rwa [add_block] at this | exact this) GW376.out) | (rw [add_block]; exact Nat.ne_of_lt (Nat.lt_of_lt_of_le (by have := World.block_lt_of_cell? _ _ hw369_1; first | rwa [add_block] at this | exact this) GW376.out)) | (show (Addr.add _ _).block ≠ _; rw [add_block]; exact Nat.ne_of_lt (Nat.lt_of_lt_of_le (by have := World.block_lt_of_cell? _ _ hw369_1; first | rwa [add_block] at this | exact this) GW376.out)) | (dsimp only; exact Nat.ne_of_lt (Nat.lt_of_lt_of_le (by have := World.block_lt_of_cell? _ _ hw369_1; first | rwa [add_block] at this | exact this) GW376.out))) _).trans (((cell_far (p := ⟨gb376, _, none⟩) (by first | exact Nat.ne_of_lt (Nat.lt_of_lt_of_le (by have := World.block_lt_of_cell? _ _ hw369_1; first | rwa [add_block] at this | exact this) GW376.out) | (rw [add_block]; exact Nat.ne_of_lt (Nat.lt_of_lt_of_le (by have := World.block_lt_of_cell? _ _ hw369_1; first | rwa [add_block] at this | exact this) GW376.out)) | (show (Addr.add _ _).block ≠ _; rw [add_block]; exact Nat.ne_of_lt (Nat.lt_of_lt_of_le (by have := World.block_lt_of_cell? _ _ hw369_1; first | rwa [add_block] at this | exact this) GW376.out)) | (dsimp only; exact Nat.ne_of_lt (Nat.lt_of_lt_of_le (by have := World.block_lt_of_cell? _ _ hw369_1; first | rwa [add_block] at this | exact this) GW376.out))) _).trans (hHeld.2.1)))), ((cell_far (p := ⟨gb376, _, none⟩) (by first | exact Nat.ne_of_lt (Nat.lt_of_lt_of_le (by have := World.block_lt_of_cell? _ _ hw370_0; first | rwa [add_block] at this | exact this) GW376.out) | (rw [add_block]; exact Nat.ne_of_lt (Nat.lt_of_lt_of_le (by have := World.block_lt_of_cell? _ _ hw370_0; first | rwa [add_block] at this | exact this) GW376.out)) | (show (Addr.add _ _).block ≠ _; rw [add_block]; exact Nat.ne_of_lt (Nat.lt_of_lt_of_le (by have := World.block_lt_of_cell? _ _ hw370_0; first | rwa [add_block] at this | exact this) GW376.out)) | (dsimp only; exact Nat.ne_of_lt (Nat.lt_of_lt_of_le (by have := World.block_lt_of_cell? _ _ hw370_0; first | rwa [add_block] at this | exact this) GW376.out))) _).trans (((cell_far (p := ⟨gb376, _, none⟩) (by first | exact Nat.ne_of_lt (Nat.lt_of_lt_of_le (by have := World.block_lt_of_cell? _ _ hw370_0; first | rwa [add_block] at this | exact this) GW376.out) | (rw [add_block]; exact Nat.ne_of_lt (Nat.lt_of_lt_of_le (by have := World.block_lt_of_cell? _ _ hw370_0; first | rwa [add_block] at this | exact this) GW376.out)) | (show (Addr.add _ _).block ≠ _; rw [add_block]; exact Nat.ne_of_lt (Nat.lt_of_lt_of_le (by have := World.block_lt_of_cell? _ _ hw370_0; first | rwa [add_block] at this | exact this) GW376.out)) | (dsimp only; exact Nat.ne_of_lt (Nat.lt_of_lt_of_le (by have := World.block_lt_of_cell? _ _ hw370_0; first | rwa [add_block] at this | exact this) GW376.out))) _).trans (hHeld.2.2.1)))), ((cell_far (p := ⟨gb376, _, none⟩) (by first | exact Nat.ne_of_lt (Nat.lt_of_lt_of_le (by have := World.block_lt_of_cell? _ _ hw370_1; first | rwa [add_block] at this | exact this) GW376.out) | (rw [add_block]; exact Nat.ne_of_lt (Nat.lt_of_lt_of_le (by have := World.block_lt_of_cell? _ _ hw370_1; first | rwa [add_block] at this | exact this) GW376.out)) | (show (Addr.add _ _).block ≠ _; rw [add_block]; exact Nat.ne_of_lt (Nat.lt_of_lt_of_le (by have := World.block_lt_of_cell? _ _ hw370_1; first | rwa [add_block] at this | exact this) GW376.out)) | (dsimp only; exact Nat.ne_of_lt (Nat.lt_of_lt_of_le (by have := World.block_lt_of_cell? _ _ hw370_1; first | rwa [add_block] at this | exact this) GW376.out))) _).trans (((cell_far (p := ⟨gb376, _, none⟩) (by first | exact Nat.ne_of_lt (Nat.lt_of_lt_of_le (by have := World.block_lt_of_cell? _ _ hw370_1; first | rwa [add_block] at this | exact this) GW376.out) | (rw [add_block]; exact Nat.ne_of_lt (Nat.lt_of_lt_of_le (by have := World.block_lt_of_cell? _ _ hw370_1; first | rwa [add_block] at this | exact this) GW376.out)) | (show (Addr.add _ _).block ≠ _; rw [add_block]; exact Nat.ne_of_lt (Nat.lt_of_lt_of_le (by have := World.block_lt_of_cell? _ _ hw370_1; first | rwa [add_block] at this | exact this) GW376.out)) | (dsimp only; exact Nat.ne_of_lt (Nat.lt_of_lt_of_le (by have := World.block_lt_of_cell? _ _ hw370_1; first | rwa [add_block] at this | exact this) GW376.out))) _).trans (hHeld.2.2.2))))⟩ (fun hHeld => ?_)
            clear hK K
            refine pure_ (i := 14) (N := some 10) (v := ?_) (a' := ?_) #[true, true, true, true, true, true, true, true, true, true, true, true, true, true, true] rfl rfl (any_of HT_.out (by kernel_rfl)) (fun _ _ _ h => h) (Or.inl ⟨by rfl, ?_⟩) ?_ ?_
            rotate_left
            ·intro w'
             go_simp
             with_reducible rfl
            rotate_left
            ·simp only [Act.put, List.setIfInBounds_toArray, List.set_cons_zero, List.set_cons_succ, i64_w, i32_w]
             rfl
            refine done_ (done_of HT_.out (by kernel_rfl)) ?_
            have n0_ : Aside0 (Kd.N k60 60 ((w26.setCell ⟨gb376, 0, none⟩ (.int .i64 t371)).setCell ⟨gb376, 1, none⟩ (.slice Ao28 t372.length co28)) w.heap.size (fun k_ => (w.heap.size ≤ k_) ∧ some k_ ≠ (.slice Ao28 t372.length co28 : Value).ownBlock ∧ k_ ≠ gb376) u6 x6_2) := ⟨by (with_reducible repeat (first | apply Kd.N_alloc | apply Kd.N_drewN | apply Kd.N_drew)); exact Kd.N_mono (Kd.N_far (p := ⟨gb376, 1, none⟩) (Kd.N_far (p := ⟨gb376, 0, none⟩) (Kd.N_mono HO_6.out (fun k_ hk => (⟨hk, hk.2.2⟩ : _ ∧ k_ ≠ gb376))) (fun _ hk => hk.2) (.int .i64 t371)) (fun _ hk => hk.2) (.slice Ao28 t372.length co28)) (fun _ hk => ⟨hk.1.1, ⟨hk.1.2.1, hk.1.2.2⟩⟩)⟩
            have n1_ : Aside0 (Kd.R (Kd.int .i64) 3 ((w26.setCell ⟨gb376, 0, none⟩ (.int .i64 t371)).setCell ⟨gb376, 1, none⟩ (.slice Ao28 t372.length co28)) w.heap.size (fun k_ => (w.heap.size ≤ k_)) (.slice Ao28 t372.length co28) t372) := ⟨by (with_reducible repeat (first | apply Kd.R_alloc | apply Kd.R_drewN | apply Kd.R_drew)); exact Kd.R_mono (Kd.R_far (p := ⟨gb376, 1, none⟩) (Kd.R_far (p := ⟨gb376, 0, none⟩) (Kd.R_types HO374.out BK376.out (by decide)) (fun _ hk => hk.2) (.int .i64 t371)) (fun _ hk => hk.2) (.slice Ao28 t372.length co28)) (fun _ hk => hk.1)⟩
            have n2_ : Aside0 (((w26.setCell ⟨gb376, 0, none⟩ (.int .i64 t371)).setCell ⟨gb376, 1, none⟩ (.slice Ao28 t372.length co28)).heap[gb376]? = some (.cells #[.int .i64 t371, .slice Ao28 t372.length co28] 60 (0, 0))) := ⟨by (with_reducible repeat (first | refine blk_drewN ?_ _ | refine blk_drew ?_ | refine blk_alloc ?_ _)); refine blk_put (cs := #[.int .i64 t371, .slice none 0 0]) ?_ 1 _ rfl; (with_reducible repeat (first | refine blk_drewN ?_ _ | refine blk_drew ?_ | refine blk_alloc ?_ _)); refine blk_put (cs := #[.int .i64 0, .slice none 0 0]) ?_ 0 _ rfl; (with_reducible repeat (first | refine blk_drewN ?_ _ | refine blk_drew ?_ | refine blk_alloc ?_ _)); exact BK376.out⟩
            have n3_ : Aside0 (Below w.heap.size w ((w26.setCell ⟨gb376, 0, none⟩ (.int .i64 t371)).setCell ⟨gb376, 1, none⟩ (.slice Ao28 t372.length co28))) := ⟨by repeat (first | (with_reducible first | exact HB.out | apply below_alloc | apply pw_below_drewN | apply below_drew1 | refine below_set ?_ GE376.out) | exact HB.out)⟩
            (try clear HO_6)
            (try clear HO374)
            (try clear BK376)
            (try clear HB)
            generalize ((w26.setCell ⟨gb376, 0, none⟩ (.int .i64 t371)).setCell ⟨gb376, 1, none⟩ (.slice Ao28 t372.length co28)) = w30 at n0_ n1_ n2_ n3_ ⊢
            have HO_6 := n0_
            have HO374 := n1_
            have BK376 := n2_
            have HB := n3_
            clear n0_ n1_ n2_ n3_
            have hcz31_0 : w30.cell? ⟨gb376, 0, none⟩ = some (.int .i64 t371) := (blk_cell BK376.out 0).trans rfl
            have hcz31_1 : w30.cell? ⟨gb376, 1, none⟩ = some (.slice Ao28 t372.length co28) := (blk_cell BK376.out 1).trans rfl
            have hfz31_0 := blk_frozen BK376.out 0
            have hfz31_1 := blk_frozen BK376.out 1
            obtain ⟨Ao32, co32, eo32⟩ := Kd.N_slice HO_6.out
            subst eo32
            try go_wp2_with (first | ((with_reducible refine gate_callee (f := 95) rfl ?_); refine goesL_ (some 42) rfl rfl Try.func95 (by kernel_rfl) rfl #[.slice Ao32 x6_2.length co32, .agg #[.int .i64 t371, .slice Ao28 t372.length co28]] rfl (by (try simp only [List.map_toArray, List.map_cons, List.map_nil]); first | done | rfl | (simp only [List.length_drop, List.length_take]; rfl)) ?_; (with_reducible refine (tenetref24_into.calls k2 (fun k_ => ((w.heap.size ≤ k_) ∧ (some k_ ≠ (.slice Ao28 t372.length co28 : Value).ownBlock ∧ k_ ≠ gb376))) _ _ x6_2 t371 (fun k_ => some k_ = (.slice Ao28 t372.length co28 : Value).ownBlock) _ _ t372 t377 false _ ?side1 ?side2 A10.out).mono ?_); (case side1 => exact Kd.N_V (HO_6.out)); (case side2 => exact Kd.R_V (Kd.R_tight rfl (Kd.R_types (Kd.R_apart' (HO374.out) (Kd.N_typed HO_6.out) (by decide)) BK376.out (by decide)))); rintro e w33 ⟨v378, rfl, ho0, hb⟩; refine ⟨_, rfl, ?_⟩; have n0_ := Aside0.mk (Kd.N_elder' (by (with_reducible repeat (first | apply Kd.N_alloc | apply Kd.N_drewN | apply Kd.N_drew)); exact HO_6.out) (by first | exact Kd.N_base ho0 | exact Kd.R_base ho0) hb); have n1_ := Aside0.mk (Kd.R_below (by (with_reducible repeat (first | apply Kd.R_alloc | apply Kd.R_drewN | apply Kd.R_drew)); exact HO374.out) hb); have n2_ := Aside0.mk (Kd.N_lower (Kd.N_mono (ok' := fun k_ => (w.heap.size ≤ k_) ∧ k_ ≠ gb376) ho0 (fun k_ hk_ => ⟨Or.elim hk_ (fun hs_ => Or.elim hs_ (fun hs_ => hs_.1) (fun hs_ => ((Kd.R_types (Kd.R_apart' (HO374.out) (Kd.N_typed HO_6.out) (by decide)) BK376.out (by decide)).1 k_ hs_.symm).1.1)) (fun hn_ => (Nat.le_trans (below_size (by repeat (first | (with_reducible first | exact HB.out | apply below_alloc | apply pw_below_drewN | apply below_drew1 | refine below_set ?_ GE376.out) | exact HB.out))) hn_)), Or.elim hk_ (fun hs_ => Or.elim hs_ (fun hs_ => hs_.2.2) (fun hs_ => ((Kd.R_types (Kd.R_apart' (HO374.out) (Kd.N_typed HO_6.out) (by decide)) BK376.out (by decide)).1 k_ hs_.symm).2)) (fun hn_ => (Kd.freshB (g := gb376) (o := .cells #[.int .i64 t371, .slice Ao28 t372.length co28] 60 (0, 0)) (by (with_reducible repeat (first | refine blk_drewN ?_ _ | refine blk_drew ?_ | refine blk_alloc ?_ _)); exact BK376.out) k_ hn_))⟩)) (below_size (by repeat (first | (with_reducible first | exact HB.out | apply below_alloc | apply pw_below_drewN | apply below_drew1 | refine below_set ?_ GE376.out) | exact HB.out)))); have n3_ := Aside0.mk (blk_below (g := gb376) (o := .cells #[.int .i64 t371, .slice Ao28 t372.length co28] 60 (0, 0)) (by (with_reducible repeat (first | refine blk_drewN ?_ _ | refine blk_drew ?_ | refine blk_alloc ?_ _)); exact BK376.out) hb); have n4_ := Aside0.mk (below_step (by repeat (first | (with_reducible first | exact HB.out | apply below_alloc | apply pw_below_drewN | apply below_drew1 | refine below_set ?_ GE376.out) | exact HB.out)) hb); clear HO_6; clear HO374; clear BK376; clear HB; have HO_6 := n0_; have HO374 := n1_; have HO379 := n2_; have BK376 := n3_; have HB := n4_; clear n0_ n1_ n2_ n3_ n4_; (try clear hb); (try clear hb2); (try clear hk); (try clear hi); (try clear ho0)))
            go_ret2
            exact ⟨_, by first | rfl | (simp [errW_none, errW_some] <;> rfl) | (simp [*, errW_none, errW_some] <;> rfl), by first | exact Kd.S_nil _ _ _ _ _ | exact Kd.N_nil _ _ _ _ _ | exact Kd.V_nil _ _ _ _ _ | exact Kd.Q_nil _ _ _ _ _ | exact Kd.R_nil _ _ _ _ _, by repeat (first | (with_reducible first | exact HB.out | apply below_alloc | apply pw_below_drewN | apply below_drew1 | refine below_set ?_ GE376.out) | exact HB.out)⟩
          ·replace c9 := Bool.eq_false_iff.mpr c9
           subst c9
           have H1 : (some (([] : List (S60)), false)) = some (r1, r2) := by rw [if_neg (show ¬ (false = true) by decide)] at H; exact H
           clear H
           have H := H1
           clear H1
           simp only [Option.some.injEq, Prod.mk.injEq] at H
           obtain ⟨rfl, rfl⟩ := H
           try go_wp2
           have n0_ := Aside0.mk (Kd.N_drew HO_6.out)
           have n1_ := Aside0.mk (below_drew1 HB.out)
           clear HO_6
           clear HB
           have HO_6 := n0_
           have HB := n1_
           clear n0_ n1_
           have p369 : 0 ≤ (x7_1 : Int) := of_decide_eq_true (by first | (with_reducible assumption) | assumption)
           have q369 : x7_1 < (l0.length : Int) := of_decide_eq_true (by first | (with_reducible assumption) | assumption)
           obtain ⟨ad369, A369_1, c369_1, e369, hx369_0, hx369_1, hl369_1, hi369_1⟩ := at_T60 HR0.out x7_1 p369 q369
           have hw369_1 := hx369_1
           have hw369_0 := hx369_0
           cases e369
           replace hx369_0 := (HB.out.cell (World.block_lt_of_cell? w _ hx369_0)).trans hx369_0
           replace hx369_1 := (HB.out.cell (World.block_lt_of_cell? w _ hx369_1)).trans hx369_1
           have HR369_1 := Aside0.mk hi369_1
           have HC369_1 := Aside0.mk hl369_1
           clear hi369_1 hl369_1
           replace p369 := eq_true p369
           replace q369 := eq_true q369
           have p370 : 0 ≤ (x8_2 : Int) := of_decide_eq_true (by first | (with_reducible assumption) | assumption)
           have q370 : x8_2 < (l1.length : Int) := of_decide_eq_true (by first | (with_reducible assumption) | assumption)
           obtain ⟨ad370, A370_1, c370_1, e370, hx370_0, hx370_1, hl370_1, hi370_1⟩ := at_T60 HR1.out x8_2 p370 q370
           have hw370_1 := hx370_1
           have hw370_0 := hx370_0
           cases e370
           replace hx370_0 := (HB.out.cell (World.block_lt_of_cell? w _ hx370_0)).trans hx370_0
           replace hx370_1 := (HB.out.cell (World.block_lt_of_cell? w _ hx370_1)).trans hx370_1
           have HR370_1 := Aside0.mk hi370_1
           have HC370_1 := Aside0.mk hl370_1
           clear hi370_1 hl370_1
           replace p370 := eq_true p370
           replace q370 := eq_true q370
           refine start_ (n := 15) (S := fun w' => w'.cell? (ad369.add ((x7_1).toNat * 2)) = some (.int .i64 ((rd_T60 l0 x7_1).f0)) ∧ w'.cell? ⟨(ad369.add ((x7_1).toNat * 2)).block, (ad369.add ((x7_1).toNat * 2)).off + 1, none⟩ = some (.slice A369_1 ((rd_T60 l0 x7_1).f1).length c369_1) ∧ w'.cell? (ad370.add ((x8_2).toNat * 2)) = some (.int .i64 ((rd_T60 l1 x8_2).f0)) ∧ w'.cell? ⟨(ad370.add ((x8_2).toNat * 2)).block, (ad370.add ((x8_2).toNat * 2)).off + 1, none⟩ = some (.slice A370_1 ((rd_T60 l1 x8_2).f1).length c370_1)) (ds := []) #[false, false, false, false, false, false, false, false, false, false, false, false, false, false, false] (by kernel_rfl) rfl rfl ⟨((HB.out.cell (World.block_lt_of_cell? w _ hw369_0)).trans hw369_0), ((HB.out.cell (World.block_lt_of_cell? w _ hw369_1)).trans hw369_1), ((HB.out.cell (World.block_lt_of_cell? w _ hw370_0)).trans hw370_0), ((HB.out.cell (World.block_lt_of_cell? w _ hw370_1)).trans hw370_1)⟩ (fun hHeld => ?_); refine with_tabW tenetref24_mul.tab8 tenetref24_mul.bits8 (fun HT_ HW_ => ?_)
           generalize wr.drew = w34 at HO_6 HB HR369_1 HR370_1 hx369_0 hx369_1 hx370_0 hx370_1 hHeld ⊢
           refine pure_ (i := 0) (N := some 26) (v := ?_) (a' := ?_) #[true, false, false, false, false, false, false, false, false, false, false, false, false, false, false] rfl rfl (any_of HT_.out (by kernel_rfl)) (fun _ _ _ h => h) (Or.inl ⟨by rfl, ?_⟩) ?_ ?_
           rotate_left
           ·intro w'
            go_simp
            with_reducible rfl
           rotate_left
           ·simp only [Act.put, List.setIfInBounds_toArray, List.set_cons_zero, List.set_cons_succ, i64_w, i32_w]
            rfl
           refine pure_ (i := 1) (N := some 27) (v := ?_) (a' := ?_) #[true, true, false, false, false, false, false, false, false, false, false, false, false, false, false] rfl rfl (any_of HT_.out (by kernel_rfl)) (fun _ _ _ h => h) (Or.inl ⟨by rfl, ?_⟩) ?_ ?_
           rotate_left
           ·intro w'
            go_simp
            with_reducible rfl
           rotate_left
           ·simp only [Act.put, List.setIfInBounds_toArray, List.set_cons_zero, List.set_cons_succ, i64_w, i32_w]
            rfl
           refine pure_ (i := 2) (N := some 28) (v := ?_) (a' := ?_) #[true, true, true, false, false, false, false, false, false, false, false, false, false, false, false] rfl rfl (any_of HT_.out (by kernel_rfl)) (fun _ _ _ h => h) (Or.inl ⟨by rfl, ?_⟩) ?_ ?_
           rotate_left
           ·intro w'
            go_simp
            with_reducible rfl
           rotate_left
           ·simp only [Act.put, List.setIfInBounds_toArray, List.set_cons_zero, List.set_cons_succ, i64_w, i32_w]
            rfl
           refine pure_ (i := 4) (N := some 30) (v := ?_) (a' := ?_) #[true, true, true, false, true, false, false, false, false, false, false, false, false, false, false] rfl rfl (any_of HT_.out (by kernel_rfl)) (fun _ _ _ h => h) (Or.inl ⟨by rfl, ?_⟩) ?_ ?_
           rotate_left
           ·intro w'
            go_simp
            with_reducible rfl
           rotate_left
           ·simp only [Act.put, List.setIfInBounds_toArray, List.set_cons_zero, List.set_cons_succ, i64_w, i32_w]
            rfl
           refine pure_ (i := 5) (N := some 31) (v := ?_) (a' := ?_) #[true, true, true, false, true, true, false, false, false, false, false, false, false, false, false] rfl rfl (any_of HT_.out (by kernel_rfl)) (fun _ _ _ h => h) (Or.inl ⟨by rfl, ?_⟩) ?_ ?_
           rotate_left
           ·intro w'
            go_simp
            with_reducible rfl
           rotate_left
           ·simp only [Act.put, List.setIfInBounds_toArray, List.set_cons_zero, List.set_cons_succ, i64_w, i32_w]
            rfl
           refine pure_ (i := 6) (N := some 32) (v := ?_) (a' := ?_) #[true, true, true, false, true, true, true, false, false, false, false, false, false, false, false] rfl rfl (any_of HT_.out (by kernel_rfl)) (fun _ _ _ h => h) (Or.inl ⟨by rfl, ?_⟩) ?_ ?_
           rotate_left
           ·intro w'
            go_simp
            with_reducible rfl
           rotate_left
           ·simp only [Act.put, List.setIfInBounds_toArray, List.set_cons_zero, List.set_cons_succ, i64_w, i32_w]
            rfl
           refine take_ (i := 3) (N := some 29) (v := ?_) (a' := ?_) #[true, true, true, true, true, true, true, false, false, false, false, false, false, false, false] rfl rfl (take_ofW HT_.out HW_.out (by kernel_rfl)) (fun _ _ _ h => h) (Or.inl ⟨by rfl, ?_⟩) hHeld ?_ ?_
           rotate_left
           ·rintro w' ⟨s0, s1, s2, s3⟩
            go_simp
            with_reducible rfl
           rotate_left
           ·simp only [Act.put, List.setIfInBounds_toArray, List.set_cons_zero, List.set_cons_succ, i64_w, i32_w]
            rfl
           refine take_ (i := 7) (N := some 33) (v := ?_) (a' := ?_) #[true, true, true, true, true, true, true, true, false, false, false, false, false, false, false] rfl rfl (take_ofW HT_.out HW_.out (by kernel_rfl)) (fun _ _ _ h => h) (Or.inl ⟨by rfl, ?_⟩) hHeld ?_ ?_
           rotate_left
           ·rintro w' ⟨s0, s1, s2, s3⟩
            go_simp
            with_reducible rfl
           rotate_left
           ·simp only [Act.put, List.setIfInBounds_toArray, List.set_cons_zero, List.set_cons_succ, i64_w, i32_w]
            rfl
           refine join_ (σ := Value × Nat) 2 #[true, true, true, true, true, true, true, true, true, true, true, true, true, false, false] (fun s_ => [(34, .tuple #[.agg #[.int .i64 t371, s_.1], .bool false]), (9, .pointer (some ⟨s_.2, 0, none⟩)), (25, .tuple #[.agg #[.int .i64 t371, s_.1], .bool false]), (35, .agg #[.int .i64 t371, s_.1]), (36, .bool false)]) (fun s_ w' => (w'.cell? (ad369.add ((x7_1).toNat * 2)) = some (.int .i64 ((rd_T60 l0 x7_1).f0)) ∧ w'.cell? ⟨(ad369.add ((x7_1).toNat * 2)).block, (ad369.add ((x7_1).toNat * 2)).off + 1, none⟩ = some (.slice A369_1 ((rd_T60 l0 x7_1).f1).length c369_1) ∧ w'.cell? (ad370.add ((x8_2).toNat * 2)) = some (.int .i64 ((rd_T60 l1 x8_2).f0)) ∧ w'.cell? ⟨(ad370.add ((x8_2).toNat * 2)).block, (ad370.add ((x8_2).toNat * 2)).off + 1, none⟩ = some (.slice A370_1 ((rd_T60 l1 x8_2).f1).length c370_1)) ∧ (Kd.R (Kd.int .i64) 3 w' w.heap.size (fun k_ => (w.heap.size ≤ k_)) s_.1 t372) ∧ (Kd.N k60 60 w' w.heap.size (fun k_ => (w.heap.size ≤ k_) ∧ some k_ ≠ (s_.1 : Value).ownBlock ∧ k_ ≠ s_.2) u6 x6_2) ∧ (w'.heap[s_.2]? = some (.cells #[.int .i64 0, .slice none 0 0] 60 (0, 0))) ∧ (w.heap.size ≤ s_.2) ∧ (w.heap.size ≤ s_.2) ∧ (Below w.heap.size w w')) ?_ ?_
           rotate_left
           ·intro hCont
            refine two_ (i := 8) (j := 12) (Ni := some 34) (Nj := some 9) #[true, true, true, true, true, true, true, true, true, false, false, false, false, false, false] #[true, true, true, true, true, true, true, true, false, false, false, false, true, false, false] rfl rfl rfl rfl (two_of HT_.out (by kernel_rfl)) (by decide) (by decide) (fun K hK => ?_) (fun K hK => ?_)
            ·skip
             refine goes_ Try.func97 (by kernel_rfl) rfl #[.agg #[.int .i64 ((rd_T60 l0 x7_1).f0), .slice A369_1 ((rd_T60 l0 x7_1).f1).length c369_1], .agg #[.int .i64 ((rd_T60 l1 x8_2).f0), .slice A370_1 ((rd_T60 l1 x8_2).f1).length c370_1]] (by rfl) rfl rfl (by (try simp only [List.map_toArray, List.map_cons, List.map_nil]); first | done | rfl | (simp only [List.length_drop, List.length_take]; rfl)) ?_
             with_reducible refine (tenetref24_times.calls k2 ((rd_T60 l0 x7_1).f0) _ _ ((rd_T60 l0 x7_1).f1) ((rd_T60 l1 x8_2).f0) _ _ ((rd_T60 l1 x8_2).f1) t371 t372 false _ ?side1 ?side2 ?side3 ?side4 A8.out).mono ?_
             (case side1 => repeat (first | exact (Kd.C_below HR369_1.out HB.out) | (with_reducible refine Kd.C_alloc ?_ _) | (with_reducible refine Kd.C_drewN ?_ _) | (with_reducible refine Kd.C_drew ?_)))
             (case side2 => exact HC369_1.out)
             (case side3 => repeat (first | exact (Kd.C_below HR370_1.out HB.out) | (with_reducible refine Kd.C_alloc ?_ _) | (with_reducible refine Kd.C_drewN ?_ _) | (with_reducible refine Kd.C_drew ?_)))
             (case side4 => exact HC370_1.out)
             rintro e w35 ⟨v373, rfl, ho0, hb⟩
             refine ⟨_, rfl, ?_⟩
             have n0_ := Aside0.mk (Kd.N_elder' (by (with_reducible repeat (first | apply Kd.N_alloc | apply Kd.N_drewN | apply Kd.N_drew)); exact HO_6.out) (Kd.R_base ho0) hb)
             have n1_ := Aside0.mk (Kd.R_lower (Kd.R_newM (M := fun k_ => (w.heap.size ≤ k_)) ho0 (below_size (by repeat (first | (with_reducible first | exact HB.out | apply below_alloc | apply pw_below_drewN | apply below_drew1) | exact HB.out))) (fun k_ h_ => h_)) (below_size (by repeat (first | (with_reducible first | exact HB.out | apply below_alloc | apply pw_below_drewN | apply below_drew1) | exact HB.out))))
             have n2_ := Aside0.mk (below_step (by repeat (first | (with_reducible first | exact HB.out | apply below_alloc | apply pw_below_drewN | apply below_drew1) | exact HB.out)) hb)
             clear HO_6
             clear HB
             have HO_6 := n0_
             have HO374 := n1_
             have HB := n2_
             clear n0_ n1_ n2_
             (try clear hb)
             (try clear hb2)
             (try clear hk)
             (try clear hi)
             (try clear ho0)
             refine hK.out _ _ ⟨((HB.out.cell (World.block_lt_of_cell? w _ hw369_0)).trans hw369_0), ((HB.out.cell (World.block_lt_of_cell? w _ hw369_1)).trans hw369_1), ((HB.out.cell (World.block_lt_of_cell? w _ hw370_0)).trans hw370_0), ((HB.out.cell (World.block_lt_of_cell? w _ hw370_1)).trans hw370_1)⟩ (fun hHeld => ?_)
             clear hK K
             refine norm_ (a' := ?_) ?_ ?_
             rotate_left
             ·show Act.put _ (some 34) _ = _
              simp only [Act.put, List.setIfInBounds_toArray, List.set_cons_zero, List.set_cons_succ, i64_w, i32_w]
              rfl
             refine pure_ (i := 9) (N := some 25) (v := ?_) (a' := ?_) #[true, true, true, true, true, true, true, true, true, true, false, false, false, false, false] rfl rfl (any_of HT_.out (by kernel_rfl)) (fun _ _ _ h => h) (Or.inl ⟨by rfl, ?_⟩) ?_ ?_
             rotate_left
             ·intro w'
              go_simp
              with_reducible rfl
             rotate_left
             ·simp only [Act.put, List.setIfInBounds_toArray, List.set_cons_zero, List.set_cons_succ, i64_w, i32_w]
              rfl
             refine pure_ (i := 10) (N := some 35) (v := ?_) (a' := ?_) #[true, true, true, true, true, true, true, true, true, true, true, false, false, false, false] rfl rfl (any_of HT_.out (by kernel_rfl)) (fun _ _ _ h => h) (Or.inl ⟨by rfl, ?_⟩) ?_ ?_
             rotate_left
             ·intro w'
              go_simp
              with_reducible rfl
             rotate_left
             ·simp only [Act.put, List.setIfInBounds_toArray, List.set_cons_zero, List.set_cons_succ, i64_w, i32_w]
              rfl
             refine pure_ (i := 11) (N := some 36) (v := ?_) (a' := ?_) #[true, true, true, true, true, true, true, true, true, true, true, true, false, false, false] rfl rfl (any_of HT_.out (by kernel_rfl)) (fun _ _ _ h => h) (Or.inl ⟨by rfl, ?_⟩) ?_ ?_
             rotate_left
             ·intro w'
              go_simp
              with_reducible rfl
             rotate_left
             ·simp only [Act.put, List.setIfInBounds_toArray, List.set_cons_zero, List.set_cons_succ, i64_w, i32_w]
              rfl
             refine one_ (i := 12) (N := some 9) #[true, true, true, true, true, true, true, true, true, true, true, true, true, false, false] rfl rfl (one_of HT_.out (by kernel_rfl)) (by decide) (fun K hK => ?_)
             refine box_step ?hg (N := 9) ?hd (cs := #[.int .i64 0, .slice none 0 0]) (t := 60) ?hr ?_; (case hd => rfl); (case hg => rfl); (case hr => first | (go_simp; done) | (go_simp; rfl))
             intro gb376 hg w36 hbox hb
             have n0_ := Aside0.mk (Kd.N_below (Kd.N_elderB (by (with_reducible repeat (first | apply Kd.N_alloc | apply Kd.N_drewN | apply Kd.N_drew)); exact HO_6.out) gb376 (Nat.le_of_eq hg.symm)) hb)
             have n1_ := Aside0.mk (Kd.R_below (by (with_reducible repeat (first | apply Kd.R_alloc | apply Kd.R_drewN | apply Kd.R_drew)); exact HO374.out) hb)
             have n2_ := Aside0.mk (below_step (by repeat (first | (with_reducible first | exact HB.out | apply below_alloc | apply pw_below_drewN | apply below_drew1) | exact HB.out)) hb)
             have n3_ := Aside0.mk (hbox)
             have n4_ := Aside0.mk ((by rw [hg]; exact (below_size (by repeat (first | (with_reducible first | exact HB.out | apply below_alloc | apply pw_below_drewN | apply below_drew1) | exact HB.out))) : w.heap.size ≤ gb376))
             have n5_ := Aside0.mk ((by rw [hg]; exact (below_size (by repeat (first | (with_reducible first | exact HB.out | apply below_alloc | apply pw_below_drewN | apply below_drew1) | exact HB.out))) : w.heap.size ≤ gb376))
             clear HO_6
             clear HO374
             clear HB
             have HO_6 := n0_
             have HO374 := n1_
             have HB := n2_
             have BK376 := n3_
             have GW376 := n4_
             have GE376 := n5_
             clear n0_ n1_ n2_ n3_ n4_ n5_
             clear hb hbox hg
             refine hK.out _ _ ⟨((HB.out.cell (World.block_lt_of_cell? w _ hw369_0)).trans hw369_0), ((HB.out.cell (World.block_lt_of_cell? w _ hw369_1)).trans hw369_1), ((HB.out.cell (World.block_lt_of_cell? w _ hw370_0)).trans hw370_0), ((HB.out.cell (World.block_lt_of_cell? w _ hw370_1)).trans hw370_1)⟩ (fun hHeld => ?_)
             clear hK K
             refine norm_ (a' := ?_) ?_ ?_
             rotate_left
             ·show Act.put _ (some 9) _ = _
              simp only [Act.put, List.setIfInBounds_toArray, List.set_cons_zero, List.set_cons_succ, i64_w, i32_w]
              rfl
             exact norm_ (by simp only [putAll, Act.put, List.setIfInBounds_toArray, List.set_cons_zero, List.set_cons_succ]) (hCont (v373, gb376) _ ⟨hHeld, (by (with_reducible repeat (first | apply Kd.R_alloc | apply Kd.R_drewN | apply Kd.R_drew)); exact Kd.R_mono HO374.out (fun _ hk => hk.1)), (by (with_reducible repeat (first | apply Kd.N_alloc | apply Kd.N_drewN | apply Kd.N_drew)); exact Kd.N_mono HO_6.out (fun _ hk => ⟨hk.1.1, ⟨hk.1.2, hk.2⟩⟩)), (by (with_reducible repeat (first | refine blk_drewN ?_ _ | refine blk_drew ?_ | refine blk_alloc ?_ _)); exact BK376.out), GW376.out, GE376.out, (by repeat (first | (with_reducible first | exact HB.out | apply below_alloc | apply pw_below_drewN | apply below_drew1 | refine below_set ?_ GE376.out) | exact HB.out))⟩)
            ·skip
             refine box_step ?hg (N := 9) ?hd (cs := #[.int .i64 0, .slice none 0 0]) (t := 60) ?hr ?_; (case hd => rfl); (case hg => rfl); (case hr => first | (go_simp; done) | (go_simp; rfl))
             intro gb376 hg w35 hbox hb
             have n0_ := Aside0.mk (Kd.N_below (Kd.N_elderB (by (with_reducible repeat (first | apply Kd.N_alloc | apply Kd.N_drewN | apply Kd.N_drew)); exact HO_6.out) gb376 (Nat.le_of_eq hg.symm)) hb)
             have n1_ := Aside0.mk (below_step (by repeat (first | (with_reducible first | exact HB.out | apply below_alloc | apply pw_below_drewN | apply below_drew1) | exact HB.out)) hb)
             have n2_ := Aside0.mk (hbox)
             have n3_ := Aside0.mk ((by rw [hg]; exact (below_size (by repeat (first | (with_reducible first | exact HB.out | apply below_alloc | apply pw_below_drewN | apply below_drew1) | exact HB.out))) : w.heap.size ≤ gb376))
             have n4_ := Aside0.mk ((by rw [hg]; exact (below_size (by repeat (first | (with_reducible first | exact HB.out | apply below_alloc | apply pw_below_drewN | apply below_drew1) | exact HB.out))) : w.heap.size ≤ gb376))
             clear HO_6
             clear HB
             have HO_6 := n0_
             have HB := n1_
             have BK376 := n2_
             have GW376 := n3_
             have GE376 := n4_
             clear n0_ n1_ n2_ n3_ n4_
             clear hb hbox hg
             refine hK.out _ _ ⟨((HB.out.cell (World.block_lt_of_cell? w _ hw369_0)).trans hw369_0), ((HB.out.cell (World.block_lt_of_cell? w _ hw369_1)).trans hw369_1), ((HB.out.cell (World.block_lt_of_cell? w _ hw370_0)).trans hw370_0), ((HB.out.cell (World.block_lt_of_cell? w _ hw370_1)).trans hw370_1)⟩ (fun hHeld => ?_)
             clear hK K
             refine norm_ (a' := ?_) ?_ ?_
             rotate_left
             ·show Act.put _ (some 9) _ = _
              simp only [Act.put, List.setIfInBounds_toArray, List.set_cons_zero, List.set_cons_succ, i64_w, i32_w]
              rfl
             refine one_ (i := 8) (N := some 34) #[true, true, true, true, true, true, true, true, true, false, false, false, true, false, false] rfl rfl (one_of HT_.out (by kernel_rfl)) (by decide) (fun K hK => ?_)
             refine goes_ Try.func97 (by kernel_rfl) rfl #[.agg #[.int .i64 ((rd_T60 l0 x7_1).f0), .slice A369_1 ((rd_T60 l0 x7_1).f1).length c369_1], .agg #[.int .i64 ((rd_T60 l1 x8_2).f0), .slice A370_1 ((rd_T60 l1 x8_2).f1).length c370_1]] (by rfl) rfl rfl (by (try simp only [List.map_toArray, List.map_cons, List.map_nil]); first | done | rfl | (simp only [List.length_drop, List.length_take]; rfl)) ?_
             with_reducible refine (tenetref24_times.calls k2 ((rd_T60 l0 x7_1).f0) _ _ ((rd_T60 l0 x7_1).f1) ((rd_T60 l1 x8_2).f0) _ _ ((rd_T60 l1 x8_2).f1) t371 t372 false _ ?side1 ?side2 ?side3 ?side4 A8.out).mono ?_
             (case side1 => repeat (first | exact (Kd.C_below HR369_1.out HB.out) | (with_reducible refine Kd.C_alloc ?_ _) | (with_reducible refine Kd.C_drewN ?_ _) | (with_reducible refine Kd.C_drew ?_)))
             (case side2 => exact HC369_1.out)
             (case side3 => repeat (first | exact (Kd.C_below HR370_1.out HB.out) | (with_reducible refine Kd.C_alloc ?_ _) | (with_reducible refine Kd.C_drewN ?_ _) | (with_reducible refine Kd.C_drew ?_)))
             (case side4 => exact HC370_1.out)
             rintro e w36 ⟨v373, rfl, ho0, hb⟩
             refine ⟨_, rfl, ?_⟩
             have n0_ := Aside0.mk (Kd.N_elder' (by (with_reducible repeat (first | apply Kd.N_alloc | apply Kd.N_drewN | apply Kd.N_drew)); exact HO_6.out) (Kd.R_base ho0) hb)
             have n1_ := Aside0.mk (Kd.R_lower (Kd.R_newM (M := fun k_ => (w.heap.size ≤ k_)) ho0 (below_size (by repeat (first | (with_reducible first | exact HB.out | apply below_alloc | apply pw_below_drewN | apply below_drew1 | refine below_set ?_ GE376.out) | exact HB.out))) (fun k_ h_ => h_)) (below_size (by repeat (first | (with_reducible first | exact HB.out | apply below_alloc | apply pw_below_drewN | apply below_drew1 | refine below_set ?_ GE376.out) | exact HB.out))))
             have n2_ := Aside0.mk (blk_below (g := gb376) (o := .cells #[.int .i64 0, .slice none 0 0] 60 (0, 0)) (by (with_reducible repeat (first | refine blk_drewN ?_ _ | refine blk_drew ?_ | refine blk_alloc ?_ _)); exact BK376.out) hb)
             have n3_ := Aside0.mk (below_step (by repeat (first | (with_reducible first | exact HB.out | apply below_alloc | apply pw_below_drewN | apply below_drew1 | refine below_set ?_ GE376.out) | exact HB.out)) hb)
             clear HO_6
             clear BK376
             clear HB
             have HO_6 := n0_
             have HO374 := n1_
             have BK376 := n2_
             have HB := n3_
             clear n0_ n1_ n2_ n3_
             (try clear hb)
             (try clear hb2)
             (try clear hk)
             (try clear hi)
             (try clear ho0)
             refine hK.out _ _ ⟨((HB.out.cell (World.block_lt_of_cell? w _ hw369_0)).trans hw369_0), ((HB.out.cell (World.block_lt_of_cell? w _ hw369_1)).trans hw369_1), ((HB.out.cell (World.block_lt_of_cell? w _ hw370_0)).trans hw370_0), ((HB.out.cell (World.block_lt_of_cell? w _ hw370_1)).trans hw370_1)⟩ (fun hHeld => ?_)
             clear hK K
             refine norm_ (a' := ?_) ?_ ?_
             rotate_left
             ·show Act.put _ (some 34) _ = _
              simp only [Act.put, List.setIfInBounds_toArray, List.set_cons_zero, List.set_cons_succ, i64_w, i32_w]
              rfl
             refine pure_ (i := 9) (N := some 25) (v := ?_) (a' := ?_) #[true, true, true, true, true, true, true, true, true, true, false, false, true, false, false] rfl rfl (any_of HT_.out (by kernel_rfl)) (fun _ _ _ h => h) (Or.inl ⟨by rfl, ?_⟩) ?_ ?_
             rotate_left
             ·intro w'
              go_simp
              with_reducible rfl
             rotate_left
             ·simp only [Act.put, List.setIfInBounds_toArray, List.set_cons_zero, List.set_cons_succ, i64_w, i32_w]
              rfl
             refine pure_ (i := 10) (N := some 35) (v := ?_) (a' := ?_) #[true, true, true, true, true, true, true, true, true, true, true, false, true, false, false] rfl rfl (any_of HT_.out (by kernel_rfl)) (fun _ _ _ h => h) (Or.inl ⟨by rfl, ?_⟩) ?_ ?_
             rotate_left
             ·intro w'
              go_simp
              with_reducible rfl
             rotate_left
             ·simp only [Act.put, List.setIfInBounds_toArray, List.set_cons_zero, List.set_cons_succ, i64_w, i32_w]
              rfl
             refine pure_ (i := 11) (N := some 36) (v := ?_) (a' := ?_) #[true, true, true, true, true, true, true, true, true, true, true, true, true, false, false] rfl rfl (any_of HT_.out (by kernel_rfl)) (fun _ _ _ h => h) (Or.inl ⟨by rfl, ?_⟩) ?_ ?_
             rotate_left
             ·intro w'
              go_simp
              with_reducible rfl
             rotate_left
             ·simp only [Act.put, List.setIfInBounds_toArray, List.set_cons_zero, List.set_cons_succ, i64_w, i32_w]
              rfl
             exact norm_ (by simp only [putAll, Act.put, List.setIfInBounds_toArray, List.set_cons_zero, List.set_cons_succ]) (hCont (v373, gb376) _ ⟨hHeld, (by (with_reducible repeat (first | apply Kd.R_alloc | apply Kd.R_drewN | apply Kd.R_drew)); exact Kd.R_mono HO374.out (fun _ hk => hk.1)), (by (with_reducible repeat (first | apply Kd.N_alloc | apply Kd.N_drewN | apply Kd.N_drew)); exact Kd.N_mono HO_6.out (fun _ hk => ⟨hk.1.1, ⟨hk.2, hk.1.2⟩⟩)), (by (with_reducible repeat (first | refine blk_drewN ?_ _ | refine blk_drew ?_ | refine blk_alloc ?_ _)); exact BK376.out), GW376.out, GE376.out, (by repeat (first | (with_reducible first | exact HB.out | apply below_alloc | apply pw_below_drewN | apply below_drew1 | refine below_set ?_ GE376.out) | exact HB.out))⟩)
           rintro ⟨v373, gb376⟩ w37 ⟨hS_, h0_, h1_, h2_, h3_, h4_, h5_⟩
           have n0_ : Aside0 (Kd.R (Kd.int .i64) 3 w37 w.heap.size (fun k_ => (w.heap.size ≤ k_)) v373 t372) := ⟨h0_⟩
           have n1_ : Aside0 (Kd.N k60 60 w37 w.heap.size (fun k_ => (w.heap.size ≤ k_) ∧ some k_ ≠ (v373 : Value).ownBlock ∧ k_ ≠ gb376) u6 x6_2) := ⟨h1_⟩
           have n2_ : Aside0 (w37.heap[gb376]? = some (.cells #[.int .i64 0, .slice none 0 0] 60 (0, 0))) := ⟨h2_⟩
           have n3_ : Aside0 (w.heap.size ≤ gb376) := ⟨h3_⟩
           have n4_ : Aside0 (w.heap.size ≤ gb376) := ⟨h4_⟩
           have n5_ : Aside0 (Below w.heap.size w w37) := ⟨h5_⟩
           clear HO_6
           clear HB
           clear h0_ h1_ h2_ h3_ h4_ h5_
           have HO374 := n0_
           have HO_6 := n1_
           have BK376 := n2_
           have GW376 := n3_
           have GE376 := n4_
           have HB := n5_
           clear n0_ n1_ n2_ n3_ n4_ n5_
           have hHeld : w37.cell? (ad369.add ((x7_1).toNat * 2)) = some (.int .i64 ((rd_T60 l0 x7_1).f0)) ∧ w37.cell? ⟨(ad369.add ((x7_1).toNat * 2)).block, (ad369.add ((x7_1).toNat * 2)).off + 1, none⟩ = some (.slice A369_1 ((rd_T60 l0 x7_1).f1).length c369_1) ∧ w37.cell? (ad370.add ((x8_2).toNat * 2)) = some (.int .i64 ((rd_T60 l1 x8_2).f0)) ∧ w37.cell? ⟨(ad370.add ((x8_2).toNat * 2)).block, (ad370.add ((x8_2).toNat * 2)).off + 1, none⟩ = some (.slice A370_1 ((rd_T60 l1 x8_2).f1).length c370_1) := hS_
           obtain ⟨Ao39, co39, eo39⟩ := Kd.R_slice HO374.out
           (first | subst eo39 | (injection eo39 with f1_ f2_ f3_; have f4_ := f1_.symm; have f5_ := f3_.symm; clear f1_ f2_ f3_; subst f4_; subst f5_))
           refine norm_ (a' := ?_) ?_ ?_
           rotate_left
           ·simp only [putAll, Act.put, List.setIfInBounds_toArray, List.set_cons_zero, List.set_cons_succ]
            rfl
           refine one_ (i := 13) (N := none) #[true, true, true, true, true, true, true, true, true, true, true, true, true, true, false] rfl rfl (one_of HT_.out (by kernel_rfl)) (by decide) (fun K hK => ?_)
           have hs38 : w37.cell? ⟨gb376, 0, none⟩ = some (.int .i64 0) := (blk_cell BK376.out 0).trans rfl
           have hfs38 := blk_frozen BK376.out 0
           have hs40 : w37.cell? ⟨gb376, 1, none⟩ = some (.slice none 0 0) := (blk_cell BK376.out 1).trans rfl
           have hfs40 := blk_frozen BK376.out 1
           refine skip_ (w1 := ?_) (by rfl) rfl ?_ ?_
           rotate_left
           ·go_simp
            rfl
           refine hK.out _ _ ⟨((cell_far (p := ⟨gb376, _, none⟩) (by first | exact Nat.ne_of_lt (Nat.lt_of_lt_of_le (by have := World.block_lt_of_cell? _ _ hw369_0; first | rwa [add_block] at this | exact this) GW376.out) | (rw [add_block]; exact Nat.ne_of_lt (Nat.lt_of_lt_of_le (by have := World.block_lt_of_cell? _ _ hw369_0; first | rwa [add_block] at this | exact this) GW376.out)) | (show (Addr.add _ _).block ≠ _; rw [add_block]; exact Nat.ne_of_lt (Nat.lt_of_lt_of_le (by have := World.block_lt_of_cell? _ _ hw369_0; first | rwa [add_block] at this | exact this) GW376.out)) | (dsimp only; exact Nat.ne_of_lt (Nat.lt_of_lt_of_le (by have := World.block_lt_of_cell? _ _ hw369_0; first | rwa [add_block] at this | exact this) GW376.out))) _).trans (((cell_far (p := ⟨gb376, _, none⟩) (by first | exact Nat.ne_of_lt (Nat.lt_of_lt_of_le (by have := World.block_lt_of_cell? _ _ hw369_0; first | rwa [add_block] at this | exact this) GW376.out) | (rw [add_block]; exact Nat.ne_of_lt (Nat.lt_of_lt_of_le (by have := World.block_lt_of_cell? _ _ hw369_0; first | rwa [add_block] at this | exact this) GW376.out)) | (show (Addr.add _ _).block ≠ _; rw [add_block]; exact Nat.ne_of_lt (Nat.lt_of_lt_of_le (by have := World.block_lt_of_cell? _ _ hw369_0; first | rwa [add_block] at this | exact this) GW376.out)) | (dsimp only; exact Nat.ne_of_lt (Nat.lt_of_lt_of_le (by have := World.block_lt_of_cell? _ _ hw369_0; first | rwa [add_block] at this | exact this) GW376.out))) _).trans (hHeld.1)))), ((cell_far (p := ⟨gb376, _, none⟩) (by first | exact Nat.ne_of_lt (Nat.lt_of_lt_of_le (by have := World.block_lt_of_cell? _ _ hw369_1; first | rwa [add_block] at this | exact this) GW376.out) | (rw [add_block]; exact Nat.ne_of_lt (Nat.lt_of_lt_of_le (by have := World.block_lt_of_cell? _ _ hw369_1; first | rwa [add_block] at this | exact this) GW376.out)) | (show (Addr.add _ _).block ≠ _; rw [add_block]; exact Nat.ne_of_lt (Nat.lt_of_lt_of_le (by have := World.block_lt_of_cell? _ _ hw369_1; first | rwa [add_block] at this | exact this) GW376.out)) | (dsimp only; exact Nat.ne_of_lt (Nat.lt_of_lt_of_le (by have := World.block_lt_of_cell? _ _ hw369_1; first | rwa [add_block] at this | exact this) GW376.out))) _).trans (((cell_far (p := ⟨gb376, _, none⟩) (by first | exact Nat.ne_of_lt (Nat.lt_of_lt_of_le (by have := World.block_lt_of_cell? _ _ hw369_1; first | rwa [add_block] at this | exact this) GW376.out) | (rw [add_block]; exact Nat.ne_of_lt (Nat.lt_of_lt_of_le (by have := World.block_lt_of_cell? _ _ hw369_1; first | rwa [add_block] at this | exact this) GW376.out)) | (show (Addr.add _ _).block ≠ _; rw [add_block]; exact Nat.ne_of_lt (Nat.lt_of_lt_of_le (by have := World.block_lt_of_cell? _ _ hw369_1; first | rwa [add_block] at this | exact this) GW376.out)) | (dsimp only; exact Nat.ne_of_lt (Nat.lt_of_lt_of_le (by have := World.block_lt_of_cell? _ _ hw369_1; first | rwa [add_block] at this | exact this) GW376.out))) _).trans (hHeld.2.1)))), ((cell_far (p := ⟨gb376, _, none⟩) (by first | exact Nat.ne_of_lt (Nat.lt_of_lt_of_le (by have := World.block_lt_of_cell? _ _ hw370_0; first | rwa [add_block] at this | exact this) GW376.out) | (rw [add_block]; exact Nat.ne_of_lt (Nat.lt_of_lt_of_le (by have := World.block_lt_of_cell? _ _ hw370_0; first | rwa [add_block] at this | exact this) GW376.out)) | (show (Addr.add _ _).block ≠ _; rw [add_block]; exact Nat.ne_of_lt (Nat.lt_of_lt_of_le (by have := World.block_lt_of_cell? _ _ hw370_0; first | rwa [add_block] at this | exact this) GW376.out)) | (dsimp only; exact Nat.ne_of_lt (Nat.lt_of_lt_of_le (by have := World.block_lt_of_cell? _ _ hw370_0; first | rwa [add_block] at this | exact this) GW376.out))) _).trans (((cell_far (p := ⟨gb376, _, none⟩) (by first | exact Nat.ne_of_lt (Nat.lt_of_lt_of_le (by have := World.block_lt_of_cell? _ _ hw370_0; first | rwa [add_block] at this | exact this) GW376.out) | (rw [add_block]; exact Nat.ne_of_lt (Nat.lt_of_lt_of_le (by have := World.block_lt_of_cell? _ _ hw370_0; first | rwa [add_block] at this | exact this) GW376.out)) | (show (Addr.add _ _).block ≠ _; rw [add_block]; exact Nat.ne_of_lt (Nat.lt_of_lt_of_le (by have := World.block_lt_of_cell? _ _ hw370_0; first | rwa [add_block] at this | exact this) GW376.out)) | (dsimp only; exact Nat.ne_of_lt (Nat.lt_of_lt_of_le (by have := World.block_lt_of_cell? _ _ hw370_0; first | rwa [add_block] at this | exact this) GW376.out))) _).trans (hHeld.2.2.1)))), ((cell_far (p := ⟨gb376, _, none⟩) (by first | exact Nat.ne_of_lt (Nat.lt_of_lt_of_le (by have := World.block_lt_of_cell? _ _ hw370_1; first | rwa [add_block] at this | exact this) GW376.out) | (rw [add_block]; exact Nat.ne_of_lt (Nat.lt_of_lt_of_le (by have := World.block_lt_of_cell? _ _ hw370_1; first | rwa [add_block] at this | exact this) GW376.out)) | (show (Addr.add _ _).block ≠ _; rw [add_block]; exact Nat.ne_of_lt (Nat.lt_of_lt_of_le (by have := World.block_lt_of_cell? _ _ hw370_1; first | rwa [add_block] at this | exact this) GW376.out)) | (dsimp only; exact Nat.ne_of_lt (Nat.lt_of_lt_of_le (by have := World.block_lt_of_cell? _ _ hw370_1; first | rwa [add_block] at this | exact this) GW376.out))) _).trans (((cell_far (p := ⟨gb376, _, none⟩) (by first | exact Nat.ne_of_lt (Nat.lt_of_lt_of_le (by have := World.block_lt_of_cell? _ _ hw370_1; first | rwa [add_block] at this | exact this) GW376.out) | (rw [add_block]; exact Nat.ne_of_lt (Nat.lt_of_lt_of_le (by have := World.block_lt_of_cell? _ _ hw370_1; first | rwa [add_block] at this | exact this) GW376.out)) | (show (Addr.add _ _).block ≠ _; rw [add_block]; exact Nat.ne_of_lt (Nat.lt_of_lt_of_le (by have := World.block_lt_of_cell? _ _ hw370_1; first | rwa [add_block] at this | exact this) GW376.out)) | (dsimp only; exact Nat.ne_of_lt (Nat.lt_of_lt_of_le (by have := World.block_lt_of_cell? _ _ hw370_1; first | rwa [add_block] at this | exact this) GW376.out))) _).trans (hHeld.2.2.2))))⟩ (fun hHeld => ?_)
           clear hK K
           refine pure_ (i := 14) (N := some 10) (v := ?_) (a' := ?_) #[true, true, true, true, true, true, true, true, true, true, true, true, true, true, true] rfl rfl (any_of HT_.out (by kernel_rfl)) (fun _ _ _ h => h) (Or.inl ⟨by rfl, ?_⟩) ?_ ?_
           rotate_left
           ·intro w'
            go_simp
            with_reducible rfl
           rotate_left
           ·simp only [Act.put, List.setIfInBounds_toArray, List.set_cons_zero, List.set_cons_succ, i64_w, i32_w]
            rfl
           refine done_ (done_of HT_.out (by kernel_rfl)) ?_
           try go_wp2
           go_ret2
           exact ⟨_, by first | rfl | (simp [errW_none, errW_some] <;> rfl) | (simp [*, errW_none, errW_some] <;> rfl), by first | exact Kd.S_nil _ _ _ _ _ | exact Kd.N_nil _ _ _ _ _ | exact Kd.V_nil _ _ _ _ _ | exact Kd.Q_nil _ _ _ _ _ | exact Kd.R_nil _ _ _ _ _, by repeat (first | (with_reducible first | exact HB.out | apply below_alloc | apply pw_below_drewN | apply below_drew1 | refine below_set ?_ GE376.out) | exact HB.out)⟩
         ·rw [if_neg c7] at H
          exact absurd H (by simp)
        ·rw [if_neg c6] at H
         exact absurd H (by simp)
       ·rw [if_neg c5] at H
        exact absurd H (by simp)
      ·rw [if_neg c4] at H
       have c4b0 : decide (x8_2 < (l1.length : Int)) = false := decide_eq_false c4
       clear c4
       have H' := Aside0.mk H
       clear H
       go_wp2
       go_roundg k2
       case measure => have := HK1.out; have := HK2.out; omega
       case rel => exact ⟨(x6_2), (wrap64 (x7_1 + 1)), (by first | rfl | (simp; done) | (simp [*]; done)), H', ⟨by have := HK1.out; have := HK2.out; omega⟩, ⟨by (with_reducible repeat (first | apply Kd.N_alloc | apply Kd.N_drewN | apply Kd.N_drew)); exact HO_6.out⟩, ⟨by repeat (first | (with_reducible first | exact HB.out | apply below_alloc | apply pw_below_drewN | apply below_drew1) | exact HB.out)⟩⟩
   ·rw [if_neg c3] at H
    have c3b0 : decide (x7_1 < (l0.length : Int)) = false := decide_eq_false c3
    clear c3
    simp only [Option.some.injEq, Prod.mk.injEq] at H
    obtain ⟨rfl, rfl⟩ := H
    obtain ⟨Ao41, co41, eo41⟩ := Kd.N_slice HO_6.out
    subst eo41
    go_wp2
    go_ret2
    exact ⟨_, by first | rfl | (simp [errW_none, errW_some] <;> rfl) | (simp [*, errW_none, errW_some] <;> rfl), by (with_reducible repeat (first | apply Kd.N_alloc | apply Kd.N_drewN | apply Kd.N_drew)); exact HO_6.out, by repeat (first | (with_reducible first | exact HB.out | apply below_alloc | apply pw_below_drewN | apply below_drew1) | exact HB.out)⟩
end Go.Proofs.Ythkclagcbjnckaa.Pa


namespace Go.Proofs.Ythkclagcbjnckaa.Pa
open Go.RowKit Go.Proofs.YthkclagcbjnckaaW.PrintWords Go.Proofs.YthkclagcbjnckaaW.PrintLast Go.Proofs.YthkclagcbjnckaaW.PrintMore
attribute [local go_sem] max2_int min2_int max_two min_two max_three min_three max_four min_four
set_option linter.unusedVariables false
set_option linter.unusedSimpArgs false
end Go.Proofs.Ythkclagcbjnckaa.Pa

namespace Go.Proofs.Ythkclagcbjnckaa.Pa
open Go.RowKit Go.Proofs.YthkclagcbjnckaaW.PrintWords Go.Proofs.YthkclagcbjnckaaW.PrintLast Go.Proofs.YthkclagcbjnckaaW.PrintMore
set_option linter.unusedVariables false
def pm (l : List S60) : Po := l.map pairOf
theorem pm_append (a b : List S60) : pm (a ++ b) = pm a ++ pm b := by simp [pm]
theorem pm_length (a : List S60) : (pm a).length = a.length := by simp [pm]
theorem addM_skip (xs : List Int) (c : Int) (p2 : Po) : ∀ (p1 : Po), (∀ m ∈ p1, m.1 ≠ xs) → addM xs c (p1 ++ p2) = p1 ++ addM xs c p2
  | [], _ => rfl
  | m :: r, h => by
    rw [List.cons_append, addM, if_neg (h m (by simp)), addM_skip xs c p2 r (fun x hx => h x (by simp [hx]))]
    rfl
theorem addM_new {xs : List Int} {c : Int} {p : Po} (h : ∀ m ∈ p, m.1 ≠ xs) : addM xs c p = p ++ [(xs, c)] := by
  have := addM_skip xs c [] p h
  rwa [List.append_nil] at this
theorem nodupK_left {p q : Po} (h : nodupK (p ++ q)) : nodupK p := (List.pairwise_append.1 h).1
theorem sumL_self (p : Po) : nodupK p → sumL p = p := by
  refine snoc_ind (P := fun p => nodupK p → sumL p = p) (fun _ => rfl) ?_ p
  intro l m ih h
  rw [sumL_snoc, ih (nodupK_left h)]
  exact addM_new (fun x hx => (List.pairwise_append.1 h).2.2 x hx m (by simp))
theorem addM_perm {p q : Po} (h : p.Perm q) (hp : nodupK p) (hq : nodupK q) (xs : List Int) (c : Int) : (addM xs c p).Perm (addM xs c q) := by
  have e : ∀ r : Po, nodupK r → addM xs c r = sumL (r ++ [(xs, c)]) := fun r hr => by rw [sumL_snoc, sumL_self r hr]
  rw [e p hp, e q hq]
  exact sumL_perm (h.append_right _)
theorem sorted_nodup {l : List S60} (h : SortedM l) : nodupK (pm l) := by
  unfold nodupK pm
  rw [List.pairwise_map]
  exact List.Pairwise.imp (fun hab => lexC_ne hab) h
def IntoPost (m : S60) (l : List S60) : Option (List S60) → Prop
  | some l' => SortedM l' ∧ (pm l').Perm (addM m.f1 m.f0 (pm l)) ∧ (∀ z : List Int, lexC z m.f1 > 0 → (∀ x ∈ l, lexC z x.f1 > 0) → ∀ x ∈ l', lexC z x.f1 > 0) ∧ (okC (pm l) → m.f0 ≤ 1000000000000000 → okC (pm l')) ∧ l'.length ≤ l.length + 1
  | none => ∃ v, (m.f1, v) ∈ addM m.f1 m.f0 (pm l) ∧ 1000000000000000 < v
theorem into_po (m : S60) : ∀ l : List S60, SortedM l → IntoPost m l (intoL m l)
  | [], _ => by
    refine ⟨by simp [SortedM], List.Perm.refl _, fun z hz _ x hx => ?_, fun _ hm x hx => ?_, by simp⟩
    · rw [List.mem_singleton] at hx; subst hx; exact hz
    · simp [pm] at hx; subst hx; exact hm
  | x :: r, h => by
    obtain ⟨h1, h2⟩ := List.pairwise_cons.1 h
    have ih := into_po m r h2
    rw [intoL]
    have epm : pm (x :: r) = pairOf x :: pm r := rfl
    by_cases hg : lexC x.f1 m.f1 > 0
    · rw [if_pos hg]
      have hk : (pairOf x).1 ≠ m.f1 := lexC_ne hg
      have ea : addM m.f1 m.f0 (pm (x :: r)) = pairOf x :: addM m.f1 m.f0 (pm r) := by rw [epm, addM, if_neg hk]
      cases hr : intoL m r with
      | none =>
        rw [hr] at ih
        obtain ⟨v, hv, hb⟩ := ih
        exact ⟨v, by rw [ea]; exact List.mem_cons_of_mem _ hv, hb⟩
      | some l' =>
        rw [hr] at ih
        obtain ⟨a1, a2, a3, a4, a5⟩ := ih
        refine ⟨List.pairwise_cons.2 ⟨a3 x.f1 hg h1, a1⟩, ?_, fun z hz hzl y hy => ?_, fun hc hm y hy => ?_, by simpa using a5⟩
        · rw [ea]; exact List.Perm.cons _ a2
        · rcases List.mem_cons.1 hy with rfl | hy
          · exact hzl _ (by simp)
          · exact a3 z hz (fun y hy => hzl y (by simp [hy])) y hy
        · rcases List.mem_cons.1 (show y ∈ pairOf x :: pm l' from hy) with rfl | hy
          · exact hc _ (by rw [epm]; simp)
          · exact a4 (fun q hq => hc q (by rw [epm]; simp [hq])) hm y hy
    · rw [if_neg hg]
      by_cases he : x.f1 = m.f1
      · rw [if_pos he]
        have ea : addM m.f1 m.f0 (pm (x :: r)) = (m.f1, x.f0 + m.f0) :: pm r := by rw [epm, addM, if_pos (show (pairOf x).1 = m.f1 from he)]; rfl
        by_cases hb : x.f0 > 1000000000000000 - m.f0
        · rw [if_pos hb]
          exact ⟨x.f0 + m.f0, by rw [ea]; simp, by omega⟩
        · rw [if_neg hb]
          refine ⟨List.pairwise_cons.2 ⟨h1, h2⟩, ?_, fun z hz hzl y hy => ?_, fun hc hm y hy => ?_, by simp⟩
          · rw [ea, ← he]; exact List.Perm.refl _
          · rcases List.mem_cons.1 hy with rfl | hy
            · exact hzl x (by simp)
            · exact hzl y (by simp [hy])
          · rcases List.mem_cons.1 (show y ∈ (x.f1, x.f0 + m.f0) :: pm r from hy) with rfl | hy
            · show x.f0 + m.f0 ≤ _; omega
            · exact hc y (by rw [epm]; simp [hy])
      · rw [if_neg he]
        have hm1 : lexC m.f1 x.f1 > 0 := lexC_tri hg he
        have hm2 : ∀ y ∈ x :: r, lexC m.f1 y.f1 > 0 := fun y hy => by
          rcases List.mem_cons.1 hy with rfl | hy
          · exact hm1
          · exact lexC_trans hm1 (h1 y hy)
        have ea : addM m.f1 m.f0 (pm (x :: r)) = pm (x :: r) ++ [(m.f1, m.f0)] := addM_new (fun q hq => by
          obtain ⟨y, hy, rfl⟩ := List.mem_map.1 hq
          exact (lexC_ne (hm2 y hy)).symm)
        refine ⟨List.pairwise_cons.2 ⟨hm2, h⟩, ?_, fun z hz hzl y hy => ?_, fun hc hm y hy => ?_, by simp⟩
        · rw [ea]; exact (List.perm_append_singleton (m.f1, m.f0) (pm (x :: r))).symm
        · rcases List.mem_cons.1 hy with rfl | hy
          · exact hz
          · exact hzl y hy
        · rcases List.mem_cons.1 (show y ∈ (m.f1, m.f0) :: pm (x :: r) from hy) with rfl | hy
          · exact hm
          · exact hc y hy
structure RefNF (l : List S60) : Prop where
  sorted : SortedM l
  nf : NF (pm l)
theorem RefNF.at_ {l : List S60} (h : RefNF l) {x : S60} (hx : x ∈ l) : x.f1.length = 8 ∧ 1 ≤ x.f0 ∧ x.f0 ≤ 1000000000000000 ∧ ∀ n ∈ x.f1, 0 ≤ n ∧ n ≤ 60 := by
  have hm : pairOf x ∈ pm l := List.mem_map.2 ⟨x, hx, rfl⟩
  exact ⟨(h.nf.good.ge _ hm).1, h.nf.good.gp _ hm, h.nf.good.gc _ hm, (h.nf.good.ge _ hm).2⟩
theorem acc_step (acc : List S60) (Q : Po) (m : S60) (hs : SortedM acc) (hp : (pm acc).Perm (sumL Q)) (hc : okC (pm acc)) (he : okE Q) (hq : okP Q) (hl : acc.length ≤ 100000000)
    (hm : m.f1.length = 8 ∧ 1 ≤ m.f0 ∧ m.f0 ≤ 1000000000000000) :
    (Ev (fun k => tenetref24_into.f k acc m.f0 m.f1) ([], false) ∧ fits (sumL (Q ++ [(m.f1, m.f0)])) = false) ∨
    ∃ acc', Ev (fun k => tenetref24_into.f k acc m.f0 m.f1) (acc', true) ∧ SortedM acc' ∧ (pm acc').Perm (sumL (Q ++ [(m.f1, m.f0)])) ∧ okC (pm acc') ∧ acc'.length ≤ acc.length + 1 := by
  have hE := okE_perm hp.symm (okE_sumL Q he)
  have hP := okP_perm hp.symm (okP_sumL Q hq)
  have h8 : len8 acc := fun x hx => (hE _ (List.mem_map.2 ⟨x, hx, rfl⟩)).1
  have h0 : ∀ x ∈ acc, 0 ≤ x.f0 ∧ x.f0 ≤ 1000000000000000 := fun x hx => by
    have a := hP _ (List.mem_map.2 ⟨x, hx, rfl⟩)
    have b := hc _ (List.mem_map.2 ⟨x, hx, rfl⟩)
    have a' : 1 ≤ x.f0 := a
    exact ⟨by omega, b⟩
  have hev := into_ev acc m hl h8 hm.1 ⟨by omega, hm.2.2⟩ h0
  have hpo := into_po m acc hs
  have hperm : (addM m.f1 m.f0 (pm acc)).Perm (sumL (Q ++ [(m.f1, m.f0)])) := by
    rw [sumL_snoc]
    exact addM_perm hp (sorted_nodup hs) (nodupK_sumL Q) _ _
  cases h : intoL m acc with
  | none =>
    rw [h] at hev hpo
    obtain ⟨v, hv, hb⟩ := hpo
    refine .inl ⟨hev, ?_⟩
    rw [← fits_perm hperm]
    cases hf : fits (addM m.f1 m.f0 (pm acc)) with
    | false => rfl
    | true => have h2 : v ≤ 1000000000000000 := (fits_iff.1 hf).1 _ hv; omega
  | some l' =>
    rw [h] at hev hpo
    obtain ⟨a1, a2, _, a4, a5⟩ := hpo
    exact .inr ⟨l', hev, a1, a2.trans hperm, a4 hc hm.2.2, a5⟩
theorem decLen {l : List S60} {Q : Po} (hp : (pm l).Perm (sumL Q)) (hc : okC (pm l)) : decide ((l.length : Int) ≤ 200) = fits (sumL Q) := by
  rw [← fits_perm hp, Bool.eq_iff_iff, fits_iff, decide_eq_true_eq]
  constructor
  · intro h; exact ⟨hc, by rw [pm_length]; omega⟩
  · intro h; have := h.2; rw [pm_length] at this; omega
def AddPost (Q : Po) (okm : Bool) (g : Nat → Option (List S60 × Bool)) : Prop :=
  ∃ l ok, Ev g (l, ok) ∧ ok = (okm && fits (sumL Q)) ∧ (ok = true → SortedM l ∧ (pm l).Perm (sumL Q))
theorem AddPost.step {Q : Po} {okm : Bool} {g f : Nat → Option (List S60 × Bool)} (h : ∀ k, g (k + 1) = f k) (hf : AddPost Q okm f) : AddPost Q okm g := by
  obtain ⟨l, ok, a, b⟩ := hf
  exact ⟨l, ok, Ev.step h a, b⟩
theorem AddPost.congr {Q : Po} {okm : Bool} {g f : Nat → Option (List S60 × Bool)} (h : ∀ k, g k = f k) (hf : AddPost Q okm f) : AddPost Q okm g := by
  obtain ⟨l, ok, a, b⟩ := hf
  exact ⟨l, ok, Ev.congr h a, b⟩
theorem AddPost.bind {Q : Po} {okm : Bool} {α : Type} {g : Nat → Option α} {f : Nat → α → Option (List S60 × Bool)} {a : α} (h : Ev g a) (hf : AddPost Q okm (fun n => f n a)) : AddPost Q okm (fun n => (g n).bind (f n)) := by
  obtain ⟨l, ok, h1, b⟩ := hf
  exact ⟨l, ok, Ev.bind h h1, b⟩
theorem AddPost.no {Q : Po} {okm : Bool} (l : List S60) (h : (okm && fits (sumL Q)) = false) : AddPost Q okm (fun _ => some (l, false)) :=
  ⟨l, false, Ev.now _, h.symm, fun h => by cases h⟩
theorem AddPost.yes {Q : Po} {l : List S60} (hs : SortedM l) (hp : (pm l).Perm (sumL Q)) (hc : okC (pm l)) : AddPost Q true (fun _ => some (l, decide ((l.length : Int) ≤ 200))) :=
  ⟨l, _, Ev.now _, by rw [decLen hp hc, Bool.true_and], fun _ => ⟨hs, hp⟩⟩
theorem okE_pm {l : List S60} (h : RefNF l) : okE (pm l) := h.nf.good.ge
theorem okP_pm {l : List S60} (h : RefNF l) : okP (pm l) := h.nf.good.gp
theorem okE_app {p q : Po} (hp : okE p) (hq : okE q) : okE (p ++ q) := fun m hm => (List.mem_append.1 hm).elim (hp m) (hq m)
theorem okP_app {p q : Po} (hp : okP p) (hq : okP q) : okP (p ++ q) := fun m hm => (List.mem_append.1 hm).elim (hp m) (hq m)
theorem okE_pre {p q : Po} (h : okE (p ++ q)) : okE p := fun m hm => h m (by simp [hm])
theorem okP_pre {p q : Po} (h : okP (p ++ q)) : okP p := fun m hm => h m (by simp [hm])
theorem okP_suf {p q : Po} (h : okP (p ++ q)) : okP q := fun m hm => h m (by simp [hm])
section
variable (k : Nat) (x1 x6 : List S60) (i : Int)
theorem add_l0_ge (h : ¬ i < (x1.length : Int)) : tenetref24_add.l0 (k + 1) x1 x6 i = some (x6, decide ((x6.length : Int) ≤ 200)) := by
  rw [tenetref24_add.l0, if_neg h]
theorem add_l0_lt (h : i < (x1.length : Int)) (h0 : 0 ≤ i) : tenetref24_add.l0 (k + 1) x1 x6 i =
    (tenetref24_into.f k x6 (rd_T60 x1 i).f0 (rd_T60 x1 i).f1).bind fun bt => if bt.2 = true then tenetref24_add.l0 k x1 bt.1 (wrap64 (i + 1)) else some ([], false) := by
  rw [tenetref24_add.l0, if_pos h, if_pos h0]
end
theorem addRef_ev (a b : List S60) (ha : RefNF a) (hb : RefNF b) : AddPost (pm a ++ pm b) true (fun k => tenetref24_add.f k a b) := by
  have hal : a.length ≤ 200 := by have := ha.nf.len; rwa [pm_length] at this
  have hbl : b.length ≤ 200 := by have := hb.nf.len; rwa [pm_length] at this
  have loop : ∀ (r pre acc : List S60), b = pre ++ r → SortedM acc → (pm acc).Perm (sumL (pm a ++ pm pre)) → okC (pm acc) → acc.length ≤ a.length + pre.length →
      AddPost (pm a ++ pm b) true (fun k => tenetref24_add.l0 k b acc (pre.length : Int)) := by
    intro r
    induction r with
    | nil =>
      intro pre acc hp hs hperm hc hl
      rw [List.append_nil] at hp
      refine AddPost.step (fun k => add_l0_ge k b acc _ (by rw [hp]; omega)) ?_
      rw [hp]
      exact AddPost.yes hs hperm hc
    | cons m r ih =>
      intro pre acc hp hs hperm hc hl
      have hlt : pre.length < b.length := by rw [hp]; simp
      have em : rd_T60 b (pre.length : Int) = m := by rw [hp]; exact rdM_mid _ _ _
      have hm := hb.at_ (show m ∈ b by rw [hp]; simp)
      have hE : okE (pm a ++ pm pre) := okE_app (okE_pm ha) (okE_pre (q := pm (m :: r)) (by rw [← pm_append, ← hp]; exact okE_pm hb))
      have hP : okP (pm a ++ pm pre) := okP_app (okP_pm ha) (okP_pre (q := pm (m :: r)) (by rw [← pm_append, ← hp]; exact okP_pm hb))
      have hP2 : okP (pm r) := okP_suf (p := pm (pre ++ [m])) (by rw [← pm_append, show (pre ++ [m]) ++ r = b by rw [hp]; simp]; exact okP_pm hb)
      have eq2 : pm a ++ pm b = (pm a ++ pm pre ++ [(m.f1, m.f0)]) ++ pm r := by
        rw [hp, pm_append]
        simp [pm, pairOf]
      refine AddPost.step (fun k => add_l0_lt k b acc _ (by omega) (by omega)) ?_
      rw [em]
      rcases acc_step acc (pm a ++ pm pre) m hs hperm hc hE hP (by omega) ⟨hm.1, hm.2.1, hm.2.2.1⟩ with ⟨h1, h2⟩ | ⟨acc', h1, h2, h3, h4, h5⟩
      · refine AddPost.bind h1 ?_
        simp only [Bool.false_eq_true, if_false]
        refine AddPost.no [] ?_
        rw [eq2, fits_false _ _ hP2 h2]; rfl
      · refine AddPost.bind h1 ?_
        simp only [if_true]
        rw [wrap_succ _ (by omega)]
        have := ih (pre ++ [m]) acc' (by rw [hp]; simp) h2 (by rw [pm_append, ← List.append_assoc]; exact h3) h4 (by rw [List.length_append, List.length_singleton]; omega)
        rw [List.length_append, List.length_singleton] at this
        exact this
  refine AddPost.congr (fun k => rfl) (loop b [] a rfl ha.sorted ?_ ha.nf.good.gc (by simp))
  rw [show pm [] = [] from rfl, List.append_nil, sumL_self _ (sorted_nodup ha.sorted)]
end Go.Proofs.Ythkclagcbjnckaa.Pa

namespace Go.Proofs.Ythkclagcbjnckaa.Pa
open Go.RowKit Go.Proofs.YthkclagcbjnckaaW.PrintWords Go.Proofs.YthkclagcbjnckaaW.PrintLast Go.Proofs.YthkclagcbjnckaaW.PrintMore
set_option linter.unusedVariables false
section
variable (k : Nat) (i x0 y0 c : Int) (xs ys es : List Int)
theorem times_l0_end (h : ¬ i < 8) : tenetref24_times.l0 (k + 1) i x0 xs y0 ys c es = some (c, es, true) := by rw [tenetref24_times.l0, if_neg h]
theorem times_l0_big (h : i < 8) (h0 : 0 ≤ i) (h1 : i < (xs.length : Int)) (h2 : i < (ys.length : Int)) (hb : wrap64 (rd xs i + rd ys i) > 60) : tenetref24_times.l0 (k + 1) i x0 xs y0 ys c es = some (0, [], false) := by
  rw [tenetref24_times.l0, if_pos h, if_pos h0, if_pos h1, if_pos h2, if_pos hb]
theorem times_l0_go (h : i < 8) (h0 : 0 ≤ i) (h1 : i < (xs.length : Int)) (h2 : i < (ys.length : Int)) (hb : ¬ wrap64 (rd xs i + rd ys i) > 60) (hl : es.length < 17592186044416) : tenetref24_times.l0 (k + 1) i x0 xs y0 ys c es =
    tenetref24_times.l0 k (wrap64 (i + 1)) x0 xs y0 ys c (es ++ [wrap64 (rd xs i + rd ys i)]) := by
  rw [tenetref24_times.l0, if_pos h, if_pos h0, if_pos h1, if_pos h2, if_neg hb, if_pos hl]
end
theorem lt17 {n : Nat} (h : n ≤ 8) : n < 17592186044416 := by omega
theorem wrap_e {a b : Int} (ha : 0 ≤ a ∧ a ≤ 60) (hb : 0 ≤ b ∧ b ≤ 60) : wrap64 (a + b) = a + b := by unfold wrap64; omega
def coB (xs ys : List Int) : Bool := (mulX xs ys).all (fun n => decide (n ≤ 60))
theorem times_loop (x0 y0 c : Int) (xs ys : List Int) (hx : xs.length = 8) (hy : ys.length = 8) (hxe : ∀ n ∈ xs, 0 ≤ n ∧ n ≤ 60) (hye : ∀ n ∈ ys, 0 ≤ n ∧ n ≤ 60) :
    ∀ (rx px ry py es : List Int), xs = px ++ rx → ys = py ++ ry → px.length = py.length → es.length = px.length →
    Ev (fun k => tenetref24_times.l0 k (px.length : Int) x0 xs y0 ys c es) (if coB rx ry = true then (c, es ++ mulX rx ry, true) else (0, [], false)) := by
  intro rx
  induction rx with
  | nil =>
    intro px ry py es h1 h2 h3 h4
    rw [List.append_nil] at h1
    refine Ev.step (f := fun _ => some (c, es, true)) (fun k => times_l0_end k _ _ _ _ _ _ _ (by rw [← h1]; omega)) ?_
    rw [if_pos (by simp [coB, mulX]), show mulX [] ry = [] from rfl, List.append_nil]
    exact Ev.now _
  | cons a rx ih =>
    intro px ry py es h1 h2 h3 h4
    cases ry with
    | nil => exfalso; rw [List.append_nil] at h2; rw [h1] at hx; rw [h2] at hy; simp at hx; omega
    | cons b ry =>
      have ea : rd xs (px.length : Int) = a := by rw [h1]; exact rdI_mid _ _ _
      have eb : rd ys (px.length : Int) = b := by rw [h2, h3]; exact rdI_mid _ _ _
      have ha := hxe a (by rw [h1]; simp)
      have hb := hye b (by rw [h2]; simp)
      have hw := wrap_e ha hb
      have hlx : px.length < xs.length := by rw [h1]; simp
      have hly : px.length < ys.length := by rw [h2, h3]; simp
      have ecb : coB (a :: rx) (b :: ry) = (decide (a + b ≤ 60) && coB rx ry) := rfl
      by_cases hbig : a + b > 60
      · rw [ecb, decide_eq_false (by omega), Bool.false_and, if_neg (by simp)]
        exact Ev.step (f := fun _ => some (0, [], false)) (fun k => times_l0_big k _ _ _ _ _ _ _ (by omega) (by omega) (by omega) (by omega) (by rw [ea, eb, hw]; exact hbig)) (Ev.now _)
      · rw [ecb, decide_eq_true (by omega), Bool.true_and]
        refine Ev.step (fun k => times_l0_go k _ _ _ _ _ _ _ (by omega) (by omega) (by omega) (by omega) (by rw [ea, eb, hw]; exact hbig) (lt17 (by omega))) ?_
        rw [ea, eb, hw, wrap_succ _ (by omega)]
        have h := ih (px ++ [a]) ry (py ++ [b]) (es ++ [a + b]) (by rw [h1]; simp) (by rw [h2]; simp) (by simp [h3]) (by simp [h4])
        rw [List.length_append, List.length_singleton] at h
        rw [show es ++ mulX (a :: rx) (b :: ry) = (es ++ [a + b]) ++ mulX rx ry by simp [mulX]]
        exact h
theorem div_le {a b : Int} (hb : 1 ≤ b) : a ≤ 1000000000000000 / b ↔ a * b ≤ 1000000000000000 := Int.le_ediv_iff_mul_le (by omega)
theorem wrap_div {b : Int} (hb : 1 ≤ b) : wrap64 ((1000000000000000 : Int) / b) = 1000000000000000 / b := by
  have h1 : 0 ≤ (1000000000000000 : Int) / b := Int.ediv_nonneg (by decide) (by omega)
  have h2 : (1000000000000000 : Int) / b ≤ 1000000000000000 := Int.ediv_le_self _ (by decide)
  exact wrap64_in (by omega) (by omega)
theorem wrap_mul {a b : Int} (ha : 1 ≤ a) (hb : 1 ≤ b) (h : a * b ≤ 1000000000000000) : wrap64 (a * b) = a * b := by
  have : 0 ≤ a * b := Int.mul_nonneg (by omega) (by omega)
  exact wrap64_in (by omega) (by omega)
def timesT (x y : S60) : Int × List Int × Bool := if okMM (pairOf x) (pairOf y) = true then (x.f0 * y.f0, mulX x.f1 y.f1, true) else (0, [], false)
theorem timesRef_ev (x y : S60) (hx : x.f1.length = 8 ∧ 1 ≤ x.f0 ∧ x.f0 ≤ 1000000000000000 ∧ ∀ n ∈ x.f1, 0 ≤ n ∧ n ≤ 60) (hy : y.f1.length = 8 ∧ 1 ≤ y.f0 ∧ y.f0 ≤ 1000000000000000 ∧ ∀ n ∈ y.f1, 0 ≤ n ∧ n ≤ 60) :
    Ev (fun k => tenetref24_times.f k x.f0 x.f1 y.f0 y.f1) (timesT x y) := by
  obtain ⟨x8, x1, x2, xe⟩ := hx
  obtain ⟨y8, y1, y2, ye⟩ := hy
  have hk : okMM (pairOf x) (pairOf y) = (coB x.f1 y.f1 && decide (x.f0 * y.f0 ≤ 1000000000000000)) := rfl
  have wd := wrap_div y1
  have dl := @div_le x.f0 y.f0 y1
  have y0 : ¬ y.f0 = 0 := by omega
  unfold timesT
  rw [hk]
  by_cases hb : x.f0 * y.f0 ≤ 1000000000000000
  · have wm := wrap_mul x1 y1 hb
    rw [decide_eq_true hb, Bool.and_true]
    have hn : ¬ x.f0 > 1000000000000000 / y.f0 := Int.not_lt.2 (dl.2 hb)
    refine Ev.congr (f := fun k => tenetref24_times.l0 k 0 x.f0 x.f1 y.f0 y.f1 (x.f0 * y.f0) []) (fun k => ?_) ?_
    · rw [tenetref24_times.f, if_neg y0, wd, if_neg hn, wm]
    · have := times_loop x.f0 y.f0 (x.f0 * y.f0) x.f1 y.f1 x8 y8 xe ye x.f1 [] y.f1 [] [] rfl rfl rfl rfl
      exact this
  · rw [decide_eq_false hb, Bool.and_false, if_neg (by simp)]
    have hn : x.f0 > 1000000000000000 / y.f0 := Int.not_le.1 (fun h => hb (dl.1 h))
    refine Ev.congr (f := fun _ => some (0, [], false)) (fun k => ?_) (Ev.now _)
    rw [tenetref24_times.f, if_neg y0, wd, if_pos hn]
section
variable (k : Nat) (x0 x1 x6 : List S60) (i j : Int)
theorem mul_l0_ge (h : ¬ i < (x0.length : Int)) : tenetref24_mul.l0 (k + 1) x0 x1 x6 i = some (x6, decide ((x6.length : Int) ≤ 200)) := by rw [tenetref24_mul.l0, if_neg h]
theorem mul_l0_lt (h : i < (x0.length : Int)) : tenetref24_mul.l0 (k + 1) x0 x1 x6 i = tenetref24_mul.l1 k x0 x1 x6 i 0 := by rw [tenetref24_mul.l0, if_pos h]
theorem mul_l1_ge (h : ¬ j < (x1.length : Int)) : tenetref24_mul.l1 (k + 1) x0 x1 x6 i j = tenetref24_mul.l0 k x0 x1 x6 (wrap64 (i + 1)) := by rw [tenetref24_mul.l1, if_neg h]
theorem mul_l1_lt (h : j < (x1.length : Int)) (hi0 : 0 ≤ i) (hi : i < (x0.length : Int)) (hj0 : 0 ≤ j) : tenetref24_mul.l1 (k + 1) x0 x1 x6 i j =
    (tenetref24_times.f k (rd_T60 x0 i).f0 (rd_T60 x0 i).f1 (rd_T60 x1 j).f0 (rd_T60 x1 j).f1).bind fun bt371 => (if bt371.2.2 = true then ((tenetref24_into.f k x6 bt371.1 bt371.2.1).bind fun bt377 => (if bt377.2 = true then (tenetref24_mul.l1 k x0 x1 bt377.1 i (wrap64 (j + 1))) else (some (([] : List (S60)), false)))) else (some (([] : List (S60)), false))) := by
  rw [tenetref24_mul.l1, if_pos h, if_pos hi0, if_pos hi, if_pos hj0]
end
theorem prodL_append (p q r : Po) : prodL (p ++ q) r = prodL p r ++ prodL q r := by simp [prodL, List.flatMap_append]
theorem prodL_cons (x : List Int × Int) (q r : Po) : prodL (x :: q) r = r.map (mulM x) ++ prodL q r := by simp [prodL]
theorem okMul_append (p q r : Po) : okMul (p ++ q) r = (okMul p r && okMul q r) := by simp [okMul]
theorem mulRef_ev (a b : List S60) (ha : RefNF a) (hb : RefNF b) : AddPost (prodL (pm a) (pm b)) (okMul (pm a) (pm b)) (fun k => tenetref24_mul.f k a b) := by
  have hal : a.length ≤ 200 := by have := ha.nf.len; rwa [pm_length] at this
  have hbl : b.length ≤ 200 := by have := hb.nf.len; rwa [pm_length] at this
  have inner : ∀ (x : S60) (ra pa : List S60), a = pa ++ x :: ra → okMul (pm pa) (pm b) = true →
      (∀ acc : List S60, SortedM acc → (pm acc).Perm (sumL (prodL (pm (pa ++ [x])) (pm b))) → okC (pm acc) → okMul (pm (pa ++ [x])) (pm b) = true → acc.length ≤ (pa.length + 1) * 200 →
        AddPost (prodL (pm a) (pm b)) (okMul (pm a) (pm b)) (fun k => tenetref24_mul.l0 k a b acc ((pa.length + 1 : Nat) : Int))) →
      ∀ (r pre acc : List S60), b = pre ++ r → SortedM acc → (pm acc).Perm (sumL (prodL (pm pa) (pm b) ++ (pm pre).map (mulM (pairOf x)))) → okC (pm acc) → (pm pre).all (okMM (pairOf x)) = true → acc.length ≤ pa.length * 200 + pre.length →
        AddPost (prodL (pm a) (pm b)) (okMul (pm a) (pm b)) (fun k => tenetref24_mul.l1 k a b acc (pa.length : Int) (pre.length : Int)) := by
    intro x ra pa hpa hok hnext r
    have hxa : x ∈ a := by rw [hpa]; simp
    have hx := ha.at_ hxa
    have hlta : pa.length < a.length := by rw [hpa]; simp
    have ex : rd_T60 a (pa.length : Int) = x := by rw [hpa]; exact rdM_mid _ _ _
    have epa : pm a = pm pa ++ pairOf x :: pm ra := by rw [hpa, pm_append]; rfl
    induction r with
    | nil =>
      intro pre acc hp hs hperm hc hall hl
      rw [List.append_nil] at hp
      refine AddPost.step (fun k => mul_l1_ge k a b acc _ _ (by rw [hp]; omega)) ?_
      rw [wrap_succ _ (by omega)]
      have e1 : prodL (pm (pa ++ [x])) (pm b) = prodL (pm pa) (pm b) ++ (pm pre).map (mulM (pairOf x)) := by
        rw [pm_append, prodL_append, ← hp, show pm [x] = [pairOf x] from rfl, prodL_cons, show prodL [] (pm b) = [] from rfl, List.append_nil]
      refine hnext acc hs (by rw [e1]; exact hperm) hc ?_ ?_
      · rw [pm_append, okMul_append, hok, show pm [x] = [pairOf x] from rfl, row_okMul, hp, hall]; rfl
      · rw [← hp] at hl; rw [Nat.add_mul]; omega
    | cons y r ih =>
      intro pre acc hp hs hperm hc hall hl
      have hyb : y ∈ b := by rw [hp]; simp
      have hy := hb.at_ hyb
      have hltb : pre.length < b.length := by rw [hp]; simp
      have ey : rd_T60 b (pre.length : Int) = y := by rw [hp]; exact rdM_mid _ _ _
      have epb : pm b = pm pre ++ pairOf y :: pm r := by rw [hp, pm_append]; rfl
      have hxm : pairOf x ∈ pm a := List.mem_map.2 ⟨x, hxa, rfl⟩
      have hym : pairOf y ∈ pm b := List.mem_map.2 ⟨y, hyb, rfl⟩
      refine AddPost.step (fun k => mul_l1_lt k a b acc _ _ (by omega) (by omega) (by omega) (by omega)) ?_
      rw [ex, ey]
      refine AddPost.bind (timesRef_ev x y hx hy) ?_
      unfold timesT
      by_cases hmm : okMM (pairOf x) (pairOf y) = true
      · rw [if_pos hmm]
        simp only [if_true]
        have hq1 : okMul (pm pa) (pm b) = true := hok
        have hm8 := okE_mulM (x := pairOf x) (y := pairOf y) ⟨hx.1, hx.2.2.2⟩ ⟨hy.1, hy.2.2.2⟩ hmm
        have hmc : x.f0 * y.f0 ≤ 1000000000000000 := by
          have : okMM (pairOf x) (pairOf y) = (coB x.f1 y.f1 && decide (x.f0 * y.f0 ≤ 1000000000000000)) := rfl
          rw [this, Bool.and_eq_true] at hmm
          exact of_decide_eq_true hmm.2
        have hmp : 1 ≤ x.f0 * y.f0 := by
          have h1 := hx.2.1
          have h2 := hy.2.1
          have : (1 : Int) * 1 ≤ x.f0 * y.f0 := Int.mul_le_mul h1 h2 (by decide) (by omega)
          simpa using this
        have hE : okE (prodL (pm pa) (pm b) ++ (pm pre).map (mulM (pairOf x))) := by
          refine okE_app (okE_prodL (okE_pre (q := pairOf x :: pm ra) (by rw [← epa]; exact okE_pm ha)) (okE_pm hb) hok) ?_
          intro q hq
          obtain ⟨z, hz, rfl⟩ := List.mem_map.1 hq
          have hzb : z ∈ pm b := by rw [epb]; simp [hz]
          exact okE_mulM (okE_pm ha _ hxm) (okE_pm hb _ hzb) (List.all_eq_true.1 hall z hz)
        have hP : okP (prodL (pm pa) (pm b) ++ (pm pre).map (mulM (pairOf x))) := by
          refine okP_app (okP_prodL (okP_pre (q := pairOf x :: pm ra) (by rw [← epa]; exact okP_pm ha)) (okP_pm hb)) ?_
          rw [← row_prodL]
          exact okP_prodL (fun q hq => by rw [List.mem_singleton] at hq; subst hq; exact okP_pm ha _ hxm) (okP_pre (q := pairOf y :: pm r) (by rw [← epb]; exact okP_pm hb))
        have hrest : okP ((pm r).map (mulM (pairOf x)) ++ prodL (pm ra) (pm b)) := by
          refine okP_app ?_ (okP_prodL (okP_suf (p := pm pa ++ [pairOf x]) (by rw [show (pm pa ++ [pairOf x]) ++ pm ra = pm a by rw [epa]; simp]; exact okP_pm ha)) (okP_pm hb))
          rw [← row_prodL]
          exact okP_prodL (fun q hq => by rw [List.mem_singleton] at hq; subst hq; exact okP_pm ha _ hxm) (okP_suf (p := pm pre ++ [pairOf y]) (by rw [show (pm pre ++ [pairOf y]) ++ pm r = pm b by rw [epb]; simp]; exact okP_pm hb))
        have eQ : prodL (pm a) (pm b) = (prodL (pm pa) (pm b) ++ (pm pre).map (mulM (pairOf x)) ++ [(mulX x.f1 y.f1, x.f0 * y.f0)]) ++ ((pm r).map (mulM (pairOf x)) ++ prodL (pm ra) (pm b)) := by
          rw [epa, prodL_append, prodL_cons]
          conv => lhs; rhs; lhs; rw [epb]
          simp [mulM, pairOf]
        have hal2 : acc.length ≤ 100000000 := by
          have : pa.length * 200 ≤ 200 * 200 := Nat.mul_le_mul_right 200 (by omega)
          omega
        rcases acc_step acc _ ⟨x.f0 * y.f0, mulX x.f1 y.f1⟩ hs hperm hc hE hP hal2 ⟨hm8.1, hmp, hmc⟩ with ⟨h1, h2⟩ | ⟨acc', h1, h2, h3, h4, h5⟩
        · refine AddPost.bind h1 ?_
          simp only [Bool.false_eq_true, if_false]
          refine AddPost.no [] ?_
          rw [eQ, fits_false _ _ hrest h2, Bool.and_false]
        · refine AddPost.bind h1 ?_
          simp only [if_true]
          rw [wrap_succ _ (by omega)]
          have := ih (pre ++ [y]) acc' (by rw [hp]; simp) h2 (by
            rw [pm_append, List.map_append, ← List.append_assoc]; exact h3) h4 (by
            rw [pm_append, List.all_append, hall]; simp [pm, hmm]) (by rw [List.length_append, List.length_singleton]; omega)
          rw [List.length_append, List.length_singleton] at this
          exact this
      · have hmm' := Bool.eq_false_iff.2 hmm
        rw [if_neg hmm]
        simp only [Bool.false_eq_true, if_false]
        refine AddPost.no [] ?_
        rw [okMul_false hxm hym hmm', Bool.false_and]
  have outer : ∀ (ra pa acc : List S60), a = pa ++ ra → SortedM acc → (pm acc).Perm (sumL (prodL (pm pa) (pm b))) → okC (pm acc) → okMul (pm pa) (pm b) = true → acc.length ≤ pa.length * 200 →
      AddPost (prodL (pm a) (pm b)) (okMul (pm a) (pm b)) (fun k => tenetref24_mul.l0 k a b acc (pa.length : Int)) := by
    intro ra
    induction ra with
    | nil =>
      intro pa acc hp hs hperm hc hok hl
      rw [List.append_nil] at hp
      refine AddPost.step (fun k => mul_l0_ge k a b acc _ (by rw [hp]; omega)) ?_
      rw [hp, hok]
      exact AddPost.yes hs hperm hc
    | cons x ra ih =>
      intro pa acc hp hs hperm hc hok hl
      have hlt : pa.length < a.length := by rw [hp]; simp
      refine AddPost.step (fun k => mul_l0_lt k a b acc _ (by omega)) ?_
      refine inner x ra pa hp hok (fun acc2 s2 p2 c2 o2 l2 => ?_) b [] acc rfl hs (by simpa [pm] using hperm) hc rfl (by simpa using hl)
      have := ih (pa ++ [x]) acc2 (by rw [hp]; simp) s2 p2 c2 o2 (by rw [List.length_append, List.length_singleton]; exact l2)
      rw [List.length_append, List.length_singleton] at this
      exact this
  refine AddPost.congr (fun k => rfl) (outer a [] [] rfl (by simp [SortedM]) ?_ (fun m hm => by cases hm) rfl (by simp))
  exact List.Perm.refl _
theorem nf_perm {p q : Po} (h : p.Perm q) (n : NF p) : NF q := ⟨good_perm h n.good, by rw [← h.length_eq]; exact n.len⟩
section
variable (k : Nat) (op n : Int) (l : List S27)
end
theorem sorted_uniq : ∀ {l l' : List S60}, SortedM l → SortedM l' → l.Perm l' → l = l'
  | [], l', _, _, h => (List.nil_perm.1 h).symm
  | x :: r, [], _, _, h => absurd (List.perm_nil.1 h) (by simp)
  | x :: r, y :: s, h1, h2, h => by
    obtain ⟨a1, a2⟩ := List.pairwise_cons.1 h1
    obtain ⟨b1, b2⟩ := List.pairwise_cons.1 h2
    have exy : x = y := by
      rcases List.mem_cons.1 (h.mem_iff.1 (List.mem_cons_self (a := x) (l := r))) with e | hx
      · exact e
      · rcases List.mem_cons.1 (h.mem_iff.2 (List.mem_cons_self (a := y) (l := s))) with e | hy
        · exact e.symm
        · have h3 := a1 y hy
          have h4 := b1 x hx
          have := lexC_trans h3 h4
          rw [lexC_self] at this; omega
    subst exy
    rw [sorted_uniq a2 b2 (List.Perm.cons_inv h)]
theorem pm_inj_perm {l l' : List S60} (h : (pm l).Perm (pm l')) : l.Perm l' := by
  have : ((pm l).map (fun p : List Int × Int => (⟨p.2, p.1⟩ : S60))).Perm ((pm l').map (fun p => ⟨p.2, p.1⟩)) := h.map _
  have e : ∀ l : List S60, (pm l).map (fun p : List Int × Int => (⟨p.2, p.1⟩ : S60)) = l := fun l => by simp [pm, pairOf, Function.comp_def]
  rwa [e, e] at this
end Go.Proofs.Ythkclagcbjnckaa.Pa


namespace Go.Proofs.Ythkclagcbjnckaa.Pa
open Go.RowKit Go.Proofs.YthkclagcbjnckaaW.PrintWords Go.Proofs.YthkclagcbjnckaaW.PrintLast Go.Proofs.YthkclagcbjnckaaW.PrintMore
attribute [local go_sem] max2_int min2_int max_two min_two max_three min_three max_four min_four
set_option linter.unusedVariables false
set_option linter.unusedSimpArgs false
end Go.Proofs.Ythkclagcbjnckaa.Pa


namespace Go.Proofs.Ythkclagcbjnckaa.Pa
open Go.RowKit Go.Proofs.YthkclagcbjnckaaW.PrintWords Go.Proofs.YthkclagcbjnckaaW.PrintLast Go.Proofs.YthkclagcbjnckaaW.PrintMore
attribute [local go_sem] max2_int min2_int max_two min_two max_three min_three max_four min_four
set_option linter.unusedVariables false
set_option linter.unusedSimpArgs false
end Go.Proofs.Ythkclagcbjnckaa.Pa


namespace Go.Proofs.Ythkclagcbjnckaa.Pa
open Go.RowKit Go.Proofs.YthkclagcbjnckaaW.PrintWords Go.Proofs.YthkclagcbjnckaaW.PrintLast Go.Proofs.YthkclagcbjnckaaW.PrintMore
attribute [local go_sem] max2_int min2_int max_two min_two max_three min_three max_four min_four
set_option linter.unusedVariables false
set_option linter.unusedSimpArgs false
mutual
def tenetref24_EqMonos.l0 : Nat → List (S60) → List (S60) → Int → Option (Bool)
 | 0, _, _, _ => none
 | k + 1, x0, x1, x5 => if x5 < (x0.length : Int) then (if 0 ≤ x5 then (if x5 < (x1.length : Int) then (if ((rd_T60 x0 x5).f0) = ((rd_T60 x1 x5).f0) then (tenetref24_EqMonos.j1 k x0 x1 x5 ((((rd_T60 x0 x5).f1).length : Int) != (((rd_T60 x1 x5).f1).length : Int))) else (tenetref24_EqMonos.j1 k x0 x1 x5 true)) else (none)) else (none)) else (some true)
def tenetref24_EqMonos.j1 : Nat → List (S60) → List (S60) → Int → Bool → Option (Bool)
 | 0, _, _, _, _ => none
 | k + 1, x0, x1, x5, x43 => if x43 = true then (some false) else (tenetref24_EqMonos.l1 k x0 x1 x5 0)
def tenetref24_EqMonos.l1 : Nat → List (S60) → List (S60) → Int → Int → Option (Bool)
 | 0, _, _, _, _ => none
 | k + 1, x0, x1, x5, x6 => if 0 ≤ x5 then (if x5 < (x0.length : Int) then (if x6 < (((rd_T60 x0 x5).f1).length : Int) then (if 0 ≤ x6 then (if x5 < (x1.length : Int) then (if x6 < (((rd_T60 x1 x5).f1).length : Int) then (if (rd ((rd_T60 x0 x5).f1) x6) = (rd ((rd_T60 x1 x5).f1) x6) then (tenetref24_EqMonos.l1 k x0 x1 x5 (wrap64 (x6 + 1))) else (some false)) else (none)) else (none)) else (none)) else (tenetref24_EqMonos.l0 k x0 x1 (wrap64 (x5 + 1)))) else (none)) else (none)
end
def tenetref24_EqMonos.f (k : Nat) (l0 : List (S60)) (l1 : List (S60)) : Option (Bool) := if (l0.length : Int) = (l1.length : Int) then (tenetref24_EqMonos.l0 k l0 l1 0) else (some false)
set_option maxHeartbeats 8000000 in
set_option maxRecDepth 100000 in
theorem tenetref24_EqMonos.calls (k : Nat) (A0 : Option Addr) (c0 : Nat) (l0 : List (S60)) (A1 : Option Addr) (c1 : Nat) (l1 : List (S60)) (r : Bool) (w : World) (hr0 : Kd.C k60 w A0 l0.length l0) (hc0 : l0.length ≤ c0) (hr1 : Kd.C k60 w A1 l1.length l1) (hc1 : l1.length ≤ c1) (h : tenetref24_EqMonos.f k l0 l1 = some r) :
  Calls Try.prog 31 #[.slice A0 l0.length c0, .slice A1 l1.length c1] w fun e w' => e = .returned (.bool r) ∧ Drawn0 w w' := by
 have HR0 := Aside0.mk hr0
 have HC0 := Aside0.mk hc0
 clear hr0 hc0
 have HR1 := Aside0.mk hr1
 have HC1 := Aside0.mk hc1
 clear hr1 hc1
 have H : (if (l0.length : Int) = (l1.length : Int) then (tenetref24_EqMonos.l0 k l0 l1 0) else (some false)) = some r := h
 clear h
 by_cases c3 : (l0.length : Int) = (l1.length : Int)
 ·rw [if_pos c3] at H
  have c3b0 : ((l0.length : Int) == (l1.length : Int)) = true := beq_iff_eq.mpr c3
  have c3b1 : ((l0.length : Int) != (l1.length : Int)) = false := bne_eq_false_iff_eq.mpr c3
  have c3b2 : (l0.length == l1.length) = true := by first | simpa using c3 | (simp at c3 ⊢; omega)
  clear c3
  have H' := Aside0.mk H
  clear H
  go_enter Try.func31, Try.ntmps31
  go_wp2
  repeat (go_quiet (fail); try go_wp2)
  go_loopg [5] k (fun kq v5 w' => ∃ (x5_1 : Int), v5 = .int .i64 x5_1 ∧ Aside0 (tenetref24_EqMonos.l0 kq l0 l1 x5_1 = some r) ∧ Aside0 (kq ≤ k) ∧ Drawn0 w w')
  case atStart => exact ⟨(0), (by first | rfl | (simp; done) | (simp [*]; done)), H', ⟨Nat.le_refl _⟩, by repeat (first | exact Drawn0.refl _ | apply Drawn0.step)⟩
  case round =>
   clear H'
   try clear c1
   try clear p2
   try clear c3
   try clear c3b0
   try clear c3b1
   try clear c3b2
   obtain ⟨x5_1, rfl, HA, HK1, ⟨m1, rfl⟩⟩ := hrel
   cases gk with
   | zero => exact absurd HA.out (by simp [tenetref24_EqMonos.l0])
   | succ k1 =>
    have H := HA.out
    clear HA
    simp only [tenetref24_EqMonos.l0] at H
    by_cases c4 : x5_1 < (l0.length : Int)
    ·rw [if_pos c4] at H
     have c4b0 : decide (x5_1 < (l0.length : Int)) = true := decide_eq_true c4
     clear c4
     have HC5 := Aside0.mk H
     clear H
     go_upto_region 6 with (fail)
     repeat (go_quiet (fail); go_upto_region 6 with (fail))
     go_cut [43] (fun v43 wc => ∃ (kq : Nat) (x43_4 : Bool), v43 = .bool x43_4 ∧ Aside0 (tenetref24_EqMonos.j1 kq l0 l1 x5_1 x43_4 = some r) ∧ Aside0 (kq ≤ k1) ∧ Drawn0 w wc)
     case first =>
      have H := HC5.out
      clear HC5
      by_cases c6 : 0 ≤ x5_1
      ·rw [if_pos c6] at H
       have c6b0 : decide (0 ≤ x5_1) = true := decide_eq_true c6
       clear c6
       (first | rw [c6b0] | (simp only [i64_w, i32_w]; rw [c6b0]) | skip)
       by_cases c7 : x5_1 < (l1.length : Int)
       ·rw [if_pos c7] at H
        have c7b0 : decide (x5_1 < (l1.length : Int)) = true := decide_eq_true c7
        clear c7
        by_cases c8 : ((rd_T60 l0 x5_1).f0) = ((rd_T60 l1 x5_1).f0)
        ·rw [if_pos c8] at H
         have c8b0 : (((rd_T60 l0 x5_1).f0) == ((rd_T60 l1 x5_1).f0)) = true := beq_iff_eq.mpr c8
         have c8b1 : (((rd_T60 l0 x5_1).f0) != ((rd_T60 l1 x5_1).f0)) = false := bne_eq_false_iff_eq.mpr c8
         clear c8
         have H' := Aside0.mk H
         clear H
         have p306 : 0 ≤ (x5_1 : Int) := of_decide_eq_true (by first | (with_reducible assumption) | assumption)
         have q306 : x5_1 < (l0.length : Int) := of_decide_eq_true (by first | (with_reducible assumption) | assumption)
         obtain ⟨ad306, A306_1, c306_1, e306, hx306_0, hx306_1, hl306_1, hi306_1⟩ := at_T60 HR0.out x5_1 p306 q306
         cases e306
         have HR306_1 := Aside0.mk hi306_1
         have HC306_1 := Aside0.mk hl306_1
         clear hi306_1 hl306_1
         replace p306 := eq_true p306
         replace q306 := eq_true q306
         have p307 : 0 ≤ (x5_1 : Int) := of_decide_eq_true (by first | (with_reducible assumption) | assumption)
         have q307 : x5_1 < (l1.length : Int) := of_decide_eq_true (by first | (with_reducible assumption) | assumption)
         obtain ⟨ad307, A307_1, c307_1, e307, hx307_0, hx307_1, hl307_1, hi307_1⟩ := at_T60 HR1.out x5_1 p307 q307
         cases e307
         have HR307_1 := Aside0.mk hi307_1
         have HC307_1 := Aside0.mk hl307_1
         clear hi307_1 hl307_1
         replace p307 := eq_true p307
         replace q307 := eq_true q307
         have p308 : 0 ≤ (x5_1 : Int) := of_decide_eq_true (by first | (with_reducible assumption) | assumption)
         have q308 : x5_1 < (l0.length : Int) := of_decide_eq_true (by first | (with_reducible assumption) | assumption)
         obtain ⟨ad308, A308_1, c308_1, e308, hx308_0, hx308_1, hl308_1, hi308_1⟩ := at_T60 HR0.out x5_1 p308 q308
         obtain rfl : ad306 = ad308 := (by injection e308)
         have HR308_1 := Aside0.mk hi308_1
         have HC308_1 := Aside0.mk hl308_1
         clear hi308_1 hl308_1
         replace p308 := eq_true p308
         replace q308 := eq_true q308
         have ea_ := Option.some.inj (hx306_1.symm.trans hx308_1)
         injection ea_ with ea_ en_ ec_
         subst ea_
         subst ec_
         clear en_
         have p309 : 0 ≤ (x5_1 : Int) := of_decide_eq_true (by first | (with_reducible assumption) | assumption)
         have q309 : x5_1 < (l1.length : Int) := of_decide_eq_true (by first | (with_reducible assumption) | assumption)
         obtain ⟨ad309, A309_1, c309_1, e309, hx309_0, hx309_1, hl309_1, hi309_1⟩ := at_T60 HR1.out x5_1 p309 q309
         obtain rfl : ad307 = ad309 := (by injection e309)
         have HR309_1 := Aside0.mk hi309_1
         have HC309_1 := Aside0.mk hl309_1
         clear hi309_1 hl309_1
         replace p309 := eq_true p309
         replace q309 := eq_true q309
         have ea_ := Option.some.inj (hx307_1.symm.trans hx309_1)
         injection ea_ with ea_ en_ ec_
         subst ea_
         subst ec_
         clear en_
         go_wp2
         repeat (go_quiet (fail); try go_wp2)
         go_meet
         case rel => exact ⟨_, (((((rd_T60 l0 x5_1).f1).length : Int) != (((rd_T60 l1 x5_1).f1).length : Int))), (by first | rfl | (simp; done) | (simp [*]; done)), H', ⟨by have := HK1.out; first | omega | exact Nat.le_refl _⟩, by repeat (first | exact Drawn0.refl _ | apply Drawn0.step)⟩
        ·rw [if_neg c8] at H
         have c8b0 : (((rd_T60 l0 x5_1).f0) == ((rd_T60 l1 x5_1).f0)) = false := beq_eq_false_iff_ne.mpr c8
         have c8b1 : (((rd_T60 l0 x5_1).f0) != ((rd_T60 l1 x5_1).f0)) = true := bne_iff_ne.mpr c8
         have H' := Aside0.mk H
         clear H
         have p306 : 0 ≤ (x5_1 : Int) := of_decide_eq_true (by first | (with_reducible assumption) | assumption)
         have q306 : x5_1 < (l0.length : Int) := of_decide_eq_true (by first | (with_reducible assumption) | assumption)
         obtain ⟨ad306, A306_1, c306_1, e306, hx306_0, hx306_1, hl306_1, hi306_1⟩ := at_T60 HR0.out x5_1 p306 q306
         cases e306
         have HR306_1 := Aside0.mk hi306_1
         have HC306_1 := Aside0.mk hl306_1
         clear hi306_1 hl306_1
         replace p306 := eq_true p306
         replace q306 := eq_true q306
         have p307 : 0 ≤ (x5_1 : Int) := of_decide_eq_true (by first | (with_reducible assumption) | assumption)
         have q307 : x5_1 < (l1.length : Int) := of_decide_eq_true (by first | (with_reducible assumption) | assumption)
         obtain ⟨ad307, A307_1, c307_1, e307, hx307_0, hx307_1, hl307_1, hi307_1⟩ := at_T60 HR1.out x5_1 p307 q307
         cases e307
         have HR307_1 := Aside0.mk hi307_1
         have HC307_1 := Aside0.mk hl307_1
         clear hi307_1 hl307_1
         replace p307 := eq_true p307
         replace q307 := eq_true q307
         go_wp2
         repeat (go_quiet (fail); try go_wp2)
         go_meet
         case rel => exact ⟨_, (true), (by first | rfl | (simp; done) | (simp [*]; done)), H', ⟨by have := HK1.out; first | omega | exact Nat.le_refl _⟩, by repeat (first | exact Drawn0.refl _ | apply Drawn0.step)⟩
       ·rw [if_neg c7] at H
        exact absurd H (by simp)
      ·rw [if_neg c6] at H
       exact absurd H (by simp)
     case rest =>
      clear HC5
      try clear c1
      try clear p2
      try clear c3
      try clear c3b0
      try clear c3b1
      try clear c3b2
      try clear p3
      try clear q3
      try clear hx3
      try clear c4
      try clear c4b0
      try clear c6
      try clear c6b0
      try clear c7
      try clear c7b0
      try clear c8
      try clear c8b0
      try clear c8b1
      try clear hx306_0
      try clear hx306_1
      try clear hx307_0
      try clear hx307_1
      try clear hx308_0
      try clear hx308_1
      try clear hx309_0
      try clear hx309_1
      try clear p2
      try clear p306
      try clear p307
      try clear p308
      try clear p309
      try clear q306
      try clear q307
      try clear q308
      try clear q309
      obtain ⟨kq, x43_4, rfl, HA, HJ4, ⟨mc4, rfl⟩⟩ := hcut
      cases kq with
      | zero => exact absurd HA.out (by simp [tenetref24_EqMonos.j1])
      | succ kj4 =>
       have H := HA.out
       clear HA
       simp only [tenetref24_EqMonos.j1] at H
       by_cases c9 : x43_4 = true
       ·subst c9
        have H1 : (some false) = some r := by rw [if_pos rfl] at H; exact H
        clear H
        have H := H1
        clear H1
        obtain rfl := Option.some.inj H
        go_wp2
        repeat (go_quiet (fail); try go_wp2)
        go_ret
        exact ⟨by first | rfl | (simp; done) | (simp [*]; done), by repeat (first | exact Drawn0.refl _ | apply Drawn0.step)⟩
       ·replace c9 := Bool.eq_false_iff.mpr c9
        subst c9
        have H1 : (tenetref24_EqMonos.l1 kj4 l0 l1 x5_1 0) = some r := by rw [if_neg (show ¬ (false = true) by decide)] at H; exact H
        clear H
        have H := H1
        clear H1
        have H' := Aside0.mk H
        clear H
        go_wp2
        repeat (go_quiet (fail); try go_wp2)
        go_loopg [6] kj4 (fun kq v6 w' => ∃ (x6_3 : Int), v6 = .int .i64 x6_3 ∧ Aside0 (tenetref24_EqMonos.l1 kq l0 l1 x5_1 x6_3 = some r) ∧ Aside0 (kq ≤ kj4) ∧ Drawn0 w w')
        case atStart => exact ⟨(0), (by first | rfl | (simp; done) | (simp [*]; done)), H', ⟨Nat.le_refl _⟩, by repeat (first | exact Drawn0.refl _ | apply Drawn0.step)⟩
        case round =>
         clear H'
         try clear c1
         try clear p2
         try clear c3
         try clear c3b0
         try clear c3b1
         try clear c3b2
         try clear p3
         try clear q3
         try clear hx3
         try clear c4
         try clear c4b0
         try clear c6
         try clear c6b0
         try clear c7
         try clear c7b0
         try clear c8
         try clear c8b0
         try clear c8b1
         try clear c9
         try clear hx306_0
         try clear hx306_1
         try clear hx307_0
         try clear hx307_1
         try clear hx308_0
         try clear hx308_1
         try clear hx309_0
         try clear hx309_1
         try clear p2
         try clear p3
         try clear p306
         try clear p307
         try clear p308
         try clear p309
         try clear q3
         try clear q306
         try clear q307
         try clear q308
         try clear q309
         obtain ⟨x6_3, rfl, HA, HK3, ⟨m3, rfl⟩⟩ := hrel
         cases gk with
         | zero => exact absurd HA.out (by simp [tenetref24_EqMonos.l1])
         | succ k3 =>
          have H := HA.out
          clear HA
          simp only [tenetref24_EqMonos.l1] at H
          by_cases c10 : 0 ≤ x5_1
          ·rw [if_pos c10] at H
           have c10b0 : decide (0 ≤ x5_1) = true := decide_eq_true c10
           clear c10
           by_cases c11 : x5_1 < (l0.length : Int)
           ·rw [if_pos c11] at H
            have c11b0 : decide (x5_1 < (l0.length : Int)) = true := decide_eq_true c11
            clear c11
            by_cases c12 : x6_3 < (((rd_T60 l0 x5_1).f1).length : Int)
            ·rw [if_pos c12] at H
             have c12b0 : decide (x6_3 < (((rd_T60 l0 x5_1).f1).length : Int)) = true := decide_eq_true c12
             clear c12
             by_cases c13 : 0 ≤ x6_3
             ·rw [if_pos c13] at H
              have c13b0 : decide (0 ≤ x6_3) = true := decide_eq_true c13
              clear c13
              by_cases c14 : x5_1 < (l1.length : Int)
              ·rw [if_pos c14] at H
               have c14b0 : decide (x5_1 < (l1.length : Int)) = true := decide_eq_true c14
               clear c14
               by_cases c15 : x6_3 < (((rd_T60 l1 x5_1).f1).length : Int)
               ·rw [if_pos c15] at H
                have c15b0 : decide (x6_3 < (((rd_T60 l1 x5_1).f1).length : Int)) = true := decide_eq_true c15
                clear c15
                by_cases c16 : (rd ((rd_T60 l0 x5_1).f1) x6_3) = (rd ((rd_T60 l1 x5_1).f1) x6_3)
                ·rw [if_pos c16] at H
                 have c16b0 : ((rd ((rd_T60 l0 x5_1).f1) x6_3) == (rd ((rd_T60 l1 x5_1).f1) x6_3)) = true := beq_iff_eq.mpr c16
                 have c16b1 : ((rd ((rd_T60 l0 x5_1).f1) x6_3) != (rd ((rd_T60 l1 x5_1).f1) x6_3)) = false := bne_eq_false_iff_eq.mpr c16
                 clear c16
                 have H' := Aside0.mk H
                 clear H
                 have p310 : 0 ≤ (x5_1 : Int) := of_decide_eq_true (by first | (with_reducible assumption) | assumption)
                 have q310 : x5_1 < (l0.length : Int) := of_decide_eq_true (by first | (with_reducible assumption) | assumption)
                 obtain ⟨ad310, A310_1, c310_1, e310, hx310_0, hx310_1, hl310_1, hi310_1⟩ := at_T60 HR0.out x5_1 p310 q310
                 cases e310
                 have HR310_1 := Aside0.mk hi310_1
                 have HC310_1 := Aside0.mk hl310_1
                 clear hi310_1 hl310_1
                 replace p310 := eq_true p310
                 replace q310 := eq_true q310
                 have p311 : 0 ≤ (x5_1 : Int) := of_decide_eq_true (by first | (with_reducible assumption) | assumption)
                 have q311 : x5_1 < (l0.length : Int) := of_decide_eq_true (by first | (with_reducible assumption) | assumption)
                 obtain ⟨ad311, A311_1, c311_1, e311, hx311_0, hx311_1, hl311_1, hi311_1⟩ := at_T60 HR0.out x5_1 p311 q311
                 obtain rfl : ad310 = ad311 := (by injection e311)
                 have HR311_1 := Aside0.mk hi311_1
                 have HC311_1 := Aside0.mk hl311_1
                 clear hi311_1 hl311_1
                 replace p311 := eq_true p311
                 replace q311 := eq_true q311
                 have ea_ := Option.some.inj (hx310_1.symm.trans hx311_1)
                 injection ea_ with ea_ en_ ec_
                 subst ea_
                 subst ec_
                 clear en_
                 have p312 : 0 ≤ (x6_3 : Int) := of_decide_eq_true (by first | (with_reducible assumption) | assumption)
                 have q312 : x6_3 < (((rd_T60 l0 x5_1).f1).length : Int) := of_decide_eq_true (by first | (with_reducible assumption) | assumption)
                 obtain ⟨ad312, e312, hx312_0⟩ := Kd.at_int HR311_1.out x6_3 p312 q312
                 cases e312
                 replace p312 := eq_true p312
                 replace q312 := eq_true q312
                 have p313 : 0 ≤ (x5_1 : Int) := of_decide_eq_true (by first | (with_reducible assumption) | assumption)
                 have q313 : x5_1 < (l1.length : Int) := of_decide_eq_true (by first | (with_reducible assumption) | assumption)
                 obtain ⟨ad313, A313_1, c313_1, e313, hx313_0, hx313_1, hl313_1, hi313_1⟩ := at_T60 HR1.out x5_1 p313 q313
                 cases e313
                 have HR313_1 := Aside0.mk hi313_1
                 have HC313_1 := Aside0.mk hl313_1
                 clear hi313_1 hl313_1
                 replace p313 := eq_true p313
                 replace q313 := eq_true q313
                 have p314 : 0 ≤ (x6_3 : Int) := of_decide_eq_true (by first | (with_reducible assumption) | assumption)
                 have q314 : x6_3 < (((rd_T60 l1 x5_1).f1).length : Int) := of_decide_eq_true (by first | (with_reducible assumption) | assumption)
                 obtain ⟨ad314, e314, hx314_0⟩ := Kd.at_int HR313_1.out x6_3 p314 q314
                 cases e314
                 replace p314 := eq_true p314
                 replace q314 := eq_true q314
                 go_wp2
                 repeat (go_quiet (fail); try go_wp2)
                 go_roundg k3
                 case measure => have := HK1.out; have := HJ4.out; have := HK3.out; omega
                 case rel => exact ⟨(wrap64 (x6_3 + 1)), (by first | rfl | (simp; done) | (simp [*]; done)), H', ⟨by have := HK1.out; have := HJ4.out; have := HK3.out; omega⟩, by repeat (first | exact Drawn0.refl _ | apply Drawn0.step)⟩
                ·rw [if_neg c16] at H
                 have c16b0 : ((rd ((rd_T60 l0 x5_1).f1) x6_3) == (rd ((rd_T60 l1 x5_1).f1) x6_3)) = false := beq_eq_false_iff_ne.mpr c16
                 have c16b1 : ((rd ((rd_T60 l0 x5_1).f1) x6_3) != (rd ((rd_T60 l1 x5_1).f1) x6_3)) = true := bne_iff_ne.mpr c16
                 obtain rfl := Option.some.inj H
                 have p310 : 0 ≤ (x5_1 : Int) := of_decide_eq_true (by first | (with_reducible assumption) | assumption)
                 have q310 : x5_1 < (l0.length : Int) := of_decide_eq_true (by first | (with_reducible assumption) | assumption)
                 obtain ⟨ad310, A310_1, c310_1, e310, hx310_0, hx310_1, hl310_1, hi310_1⟩ := at_T60 HR0.out x5_1 p310 q310
                 cases e310
                 have HR310_1 := Aside0.mk hi310_1
                 have HC310_1 := Aside0.mk hl310_1
                 clear hi310_1 hl310_1
                 replace p310 := eq_true p310
                 replace q310 := eq_true q310
                 have p311 : 0 ≤ (x5_1 : Int) := of_decide_eq_true (by first | (with_reducible assumption) | assumption)
                 have q311 : x5_1 < (l0.length : Int) := of_decide_eq_true (by first | (with_reducible assumption) | assumption)
                 obtain ⟨ad311, A311_1, c311_1, e311, hx311_0, hx311_1, hl311_1, hi311_1⟩ := at_T60 HR0.out x5_1 p311 q311
                 obtain rfl : ad310 = ad311 := (by injection e311)
                 have HR311_1 := Aside0.mk hi311_1
                 have HC311_1 := Aside0.mk hl311_1
                 clear hi311_1 hl311_1
                 replace p311 := eq_true p311
                 replace q311 := eq_true q311
                 have ea_ := Option.some.inj (hx310_1.symm.trans hx311_1)
                 injection ea_ with ea_ en_ ec_
                 subst ea_
                 subst ec_
                 clear en_
                 have p312 : 0 ≤ (x6_3 : Int) := of_decide_eq_true (by first | (with_reducible assumption) | assumption)
                 have q312 : x6_3 < (((rd_T60 l0 x5_1).f1).length : Int) := of_decide_eq_true (by first | (with_reducible assumption) | assumption)
                 obtain ⟨ad312, e312, hx312_0⟩ := Kd.at_int HR311_1.out x6_3 p312 q312
                 cases e312
                 replace p312 := eq_true p312
                 replace q312 := eq_true q312
                 have p313 : 0 ≤ (x5_1 : Int) := of_decide_eq_true (by first | (with_reducible assumption) | assumption)
                 have q313 : x5_1 < (l1.length : Int) := of_decide_eq_true (by first | (with_reducible assumption) | assumption)
                 obtain ⟨ad313, A313_1, c313_1, e313, hx313_0, hx313_1, hl313_1, hi313_1⟩ := at_T60 HR1.out x5_1 p313 q313
                 cases e313
                 have HR313_1 := Aside0.mk hi313_1
                 have HC313_1 := Aside0.mk hl313_1
                 clear hi313_1 hl313_1
                 replace p313 := eq_true p313
                 replace q313 := eq_true q313
                 have p314 : 0 ≤ (x6_3 : Int) := of_decide_eq_true (by first | (with_reducible assumption) | assumption)
                 have q314 : x6_3 < (((rd_T60 l1 x5_1).f1).length : Int) := of_decide_eq_true (by first | (with_reducible assumption) | assumption)
                 obtain ⟨ad314, e314, hx314_0⟩ := Kd.at_int HR313_1.out x6_3 p314 q314
                 cases e314
                 replace p314 := eq_true p314
                 replace q314 := eq_true q314
                 go_wp2
                 repeat (go_quiet (fail); try go_wp2)
                 go_ret
                 exact ⟨by first | rfl | (simp; done) | (simp [*]; done), by repeat (first | exact Drawn0.refl _ | apply Drawn0.step)⟩
               ·rw [if_neg c15] at H
                exact absurd H (by simp)
              ·rw [if_neg c14] at H
               exact absurd H (by simp)
             ·rw [if_neg c13] at H
              exact absurd H (by simp)
            ·rw [if_neg c12] at H
             have c12b0 : decide (x6_3 < (((rd_T60 l0 x5_1).f1).length : Int)) = false := decide_eq_false c12
             clear c12
             have H' := Aside0.mk H
             clear H
             have p310 : 0 ≤ (x5_1 : Int) := of_decide_eq_true (by first | (with_reducible assumption) | assumption)
             have q310 : x5_1 < (l0.length : Int) := of_decide_eq_true (by first | (with_reducible assumption) | assumption)
             obtain ⟨ad310, A310_1, c310_1, e310, hx310_0, hx310_1, hl310_1, hi310_1⟩ := at_T60 HR0.out x5_1 p310 q310
             cases e310
             have HR310_1 := Aside0.mk hi310_1
             have HC310_1 := Aside0.mk hl310_1
             clear hi310_1 hl310_1
             replace p310 := eq_true p310
             replace q310 := eq_true q310
             go_wp2
             repeat (go_quiet (fail); try go_wp2)
             go_roundg k3
             case measure => have := HK1.out; have := HJ4.out; have := HK3.out; omega
             case rel => exact ⟨(wrap64 (x5_1 + 1)), (by first | rfl | (simp; done) | (simp [*]; done)), H', ⟨by have := HK1.out; have := HJ4.out; have := HK3.out; omega⟩, by repeat (first | exact Drawn0.refl _ | apply Drawn0.step)⟩
           ·rw [if_neg c11] at H
            exact absurd H (by simp)
          ·rw [if_neg c10] at H
           exact absurd H (by simp)
    ·rw [if_neg c4] at H
     have c4b0 : decide (x5_1 < (l0.length : Int)) = false := decide_eq_false c4
     clear c4
     obtain rfl := Option.some.inj H
     go_wp2
     repeat (go_quiet (fail); try go_wp2)
     go_ret
     exact ⟨by first | rfl | (simp; done) | (simp [*]; done), by repeat (first | exact Drawn0.refl _ | apply Drawn0.step)⟩
 ·rw [if_neg c3] at H
  have c3b0 : ((l0.length : Int) == (l1.length : Int)) = false := beq_eq_false_iff_ne.mpr c3
  have c3b1 : ((l0.length : Int) != (l1.length : Int)) = true := bne_iff_ne.mpr c3
  have c3b2 : (l0.length == l1.length) = false := by first | simpa using c3 | (simp at c3 ⊢; omega)
  obtain rfl := Option.some.inj H
  go_enter Try.func31, Try.ntmps31
  go_wp2
  repeat (go_quiet (fail); try go_wp2)
  go_ret
  exact ⟨by first | rfl | (simp; done) | (simp [*]; done), by repeat (first | exact Drawn0.refl _ | apply Drawn0.step)⟩
end Go.Proofs.Ythkclagcbjnckaa.Pa


namespace Go.Proofs.Ythkclagcbjnckaa.Pa
open Go.RowKit Go.Proofs.YthkclagcbjnckaaW.PrintWords Go.Proofs.YthkclagcbjnckaaW.PrintLast Go.Proofs.YthkclagcbjnckaaW.PrintMore
attribute [local go_sem] max2_int min2_int max_two min_two max_three min_three max_four min_four
set_option linter.unusedVariables false
set_option linter.unusedSimpArgs false
end Go.Proofs.Ythkclagcbjnckaa.Pa

