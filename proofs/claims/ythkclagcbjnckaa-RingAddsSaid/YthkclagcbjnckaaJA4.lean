import Derived.Lib.SliceRun
import Derived.Shelf.SlSortCmp.WholeK
import Derived.Test.YthkclagcbjnckaaProg
import Derived.Shelf.SlSortCmp.NoneTotal
import Derived.Deep.SlicePairs
import Derived.ChangeSlices
import Derived.SizedLaws
import Derived.Test.YthkclagcbjnckaaJA3
set_option linter.unusedVariables false
set_option linter.unusedSimpArgs false

namespace Go.Proofs.Ythkclagcbjnckaa.Pa
open Go.RowKit Go.Proofs.YthkclagcbjnckaaW.PrintWords Go.Proofs.YthkclagcbjnckaaW.PrintLast Go.Proofs.YthkclagcbjnckaaW.PrintMore
attribute [local go_sem] max2_int min2_int max_two min_two max_three min_three max_four min_four
set_option linter.unusedVariables false
set_option linter.unusedSimpArgs false
def tenetref24_copied.l0 : Nat → List (S60) → List (S60) → Int → Option ((List (S60)))
 | 0, _, _, _ => none
 | k + 1, x0, x3, x4 => if x4 < (x0.length : Int) then (if 0 ≤ x4 then ((some (([] : List Int) : List Int)).bind fun y581 => (if y581.length + ((rd_T60 x0 x4).f1).length < 17592186044416 then (if x3.length < 4398046511104 then (tenetref24_copied.l0 k x0 (x3 ++ [(⟨(rd_T60 x0 x4).f0, (y581 ++ ((rd_T60 x0 x4).f1))⟩ : S60)]) (wrap64 (x4 + 1))) else (none)) else (none))) else (none)) else (some x3)
def tenetref24_copied.f (k : Nat) (l0 : List (S60)) : Option ((List (S60))) := tenetref24_copied.l0 k l0 ([] : List (S60)) 0
def tenetref24_copied.T5 : Bool × List (List Nat × List Nat) := (true, [([], []), ([], []), ([], []), ([1, 2], [1, 2]), ([3], [3]), ([4], [4]), ([], []), ([], []), ([], []), ([7, 8], [7, 8]), ([9], [9]), ([10], [10]), ([6, 11], [6, 11]), ([5, 12], [5, 12]), ([13], [13]), ([0, 14, 12], [0, 14]), ([15, 15, 0, 1, 2, 3, 4, 5, 6, 7, 8, 9, 10, 11, 12, 13, 14, 15], [0, 15])])
def tenetref24_copied.B5 : List Nat := [0, 0, 0, 6, 14, 30, 0, 0, 0, 384, 896, 1920, 4032, 8190, 16382, 32767, 65535]
theorem tenetref24_copied.tab5 : rtab .any (opsOf Try.f68 5) = tenetref24_copied.T5 := by kernel_rfl
theorem tenetref24_copied.bits5 : waitsOk tenetref24_copied.T5.2 tenetref24_copied.B5 = true := by kernel_rfl
set_option maxHeartbeats 8000000 in
set_option maxRecDepth 100000 in
theorem tenetref24_copied.calls (k : Nat) (A0 : Option Addr) (c0 : Nat) (l0 : List (S60)) (r : List (S60)) (w : World) (hr0 : Kd.C k60 w A0 l0.length l0) (hc0 : l0.length ≤ c0) (h : tenetref24_copied.f k l0 = some r) :
  Calls Try.prog 68 #[.slice A0 l0.length c0] w fun e w' => ∃ v0_ : Value, e = .returned (v0_) ∧ Kd.S k60 60 w' w.heap.size (fun _ => True) v0_ r ∧ Below w.heap.size w w' := by
 have hu60 := Try.underlying60
 have HR0 := Aside0.mk hr0
 have HC0 := Aside0.mk hc0
 clear hr0 hc0
 have HB := Aside0.mk (Below.refl w.heap.size w)
 have H : (tenetref24_copied.l0 k l0 ([] : List (S60)) 0) = some r := h
 clear h
 have H' := Aside0.mk H
 clear H
 go_enter Try.func68, Try.ntmps68
 go_wp2
 go_loopg [3, 4] k (fun kq v3 v4 w' => ∃ (x3_1 : List (S60)) (x4_1 : Int), v4 = .int .i64 x4_1 ∧ Aside0 (tenetref24_copied.l0 kq l0 x3_1 x4_1 = some r) ∧ Aside0 (kq ≤ k) ∧ Aside0 (Kd.S k60 60 w' w.heap.size (fun _ => True) v3 x3_1) ∧ Aside0 (Below w.heap.size w w'))
 case atStart => exact ⟨(([] : List (S60))), (0), (by first | rfl | (simp; done) | (simp [*]; done)), H', ⟨Nat.le_refl _⟩, ⟨by first | exact Kd.S_nil _ _ _ _ _ | exact Kd.N_nil _ _ _ _ _ | exact Kd.V_nil _ _ _ _ _ | exact Kd.Q_nil _ _ _ _ _ | exact Kd.R_nil _ _ _ _ _⟩, ⟨by repeat (first | (with_reducible first | exact HB.out | apply below_alloc | apply pw_below_drewN | apply below_drew1) | exact HB.out)⟩⟩
 case round =>
  clear H'
  obtain ⟨x3_1, x4_1, rfl, HA, HK1, HO_3, HB⟩ := hrel
  cases gk with
  | zero => exact absurd HA.out (by simp [tenetref24_copied.l0])
  | succ k1 =>
   have H := HA.out
   clear HA
   simp only [tenetref24_copied.l0] at H
   by_cases c2 : x4_1 < (l0.length : Int)
   ·rw [if_pos c2] at H
    have c2b0 : decide (x4_1 < (l0.length : Int)) = true := decide_eq_true c2
    clear c2
    by_cases c3 : 0 ≤ x4_1
    ·rw [if_pos c3] at H
     have c3b0 : decide (0 ≤ x4_1) = true := decide_eq_true c3
     clear c3
     obtain ⟨y581, hy581⟩ : ∃ y_ : List Int, y_ = (([] : List Int)) := ⟨_, rfl⟩
     replace H : (if y581.length + ((rd_T60 l0 x4_1).f1).length < 17592186044416 then (if x3_1.length < 4398046511104 then (tenetref24_copied.l0 k1 l0 (x3_1 ++ [(⟨(rd_T60 l0 x4_1).f0, (y581 ++ ((rd_T60 l0 x4_1).f1))⟩ : S60)]) (wrap64 (x4_1 + 1))) else (none)) else (none)) = some r := by first | (rw [hy581]; with_reducible exact H) | (have H2_ := (Option.bind_some _ _).symm.trans H; rw [hy581]; with_reducible exact H2_) | (have H2_ := (Option.bind_some _ _).symm.trans H; with_reducible exact H2_) | with_reducible exact H | (rw [hy581]; exact H) | exact H
     have Ny581 := Aside0.mk hy581
     clear hy581
     by_cases c4 : y581.length + ((rd_T60 l0 x4_1).f1).length < 17592186044416
     ·rw [if_pos c4] at H
      have LMc4 := Aside0.mk c4
      clear c4
      obtain ⟨y585, hy585⟩ : ∃ y_ : List Int, y_ = (y581 ++ ((rd_T60 l0 x4_1).f1)) := ⟨_, rfl⟩
      replace H : (if x3_1.length < 4398046511104 then (tenetref24_copied.l0 k1 l0 (x3_1 ++ [(⟨(rd_T60 l0 x4_1).f0, y585⟩ : S60)]) (wrap64 (x4_1 + 1))) else (none)) = some r := by first | (rw [hy585]; with_reducible exact H) | (have H2_ := (Option.bind_some _ _).symm.trans H; rw [hy585]; with_reducible exact H2_) | (have H2_ := (Option.bind_some _ _).symm.trans H; with_reducible exact H2_) | with_reducible exact H | (rw [hy585]; exact H) | exact H
      have Ny585 := Aside0.mk hy585
      clear hy585
      by_cases c5 : x3_1.length < 4398046511104
      ·rw [if_pos c5] at H
       have LMc5 := Aside0.mk c5
       clear c5
       obtain ⟨y588, hy588⟩ : ∃ y_ : List (S60), y_ = (x3_1 ++ [(⟨(rd_T60 l0 x4_1).f0, y585⟩ : S60)]) := ⟨_, rfl⟩
       replace H : (tenetref24_copied.l0 k1 l0 y588 (wrap64 (x4_1 + 1))) = some r := by first | (rw [hy588]; with_reducible exact H) | (have H2_ := (Option.bind_some _ _).symm.trans H; rw [hy588]; with_reducible exact H2_) | (have H2_ := (Option.bind_some _ _).symm.trans H; with_reducible exact H2_) | with_reducible exact H | (rw [hy588]; exact H) | exact H
       have Ny588 := Aside0.mk hy588
       clear hy588
       have H' := Aside0.mk H
       clear H
       try go_wp2
       have n0_ := Aside0.mk (Kd.S_drew HO_3.out)
       have n1_ := Aside0.mk (below_drew1 HB.out)
       clear HO_3
       clear HB
       have HO_3 := n0_
       have HB := n1_
       clear n0_ n1_
       have p580 : 0 ≤ (x4_1 : Int) := of_decide_eq_true (by first | (with_reducible assumption) | assumption)
       have q580 : x4_1 < (l0.length : Int) := of_decide_eq_true (by first | (with_reducible assumption) | assumption)
       obtain ⟨ad580, A580_1, c580_1, e580, hx580_0, hx580_1, hl580_1, hi580_1⟩ := at_T60 HR0.out x4_1 p580 q580
       have hw580_1 := hx580_1
       have hw580_0 := hx580_0
       cases e580
       replace hx580_0 := (HB.out.cell (World.block_lt_of_cell? w _ hx580_0)).trans hx580_0
       replace hx580_1 := (HB.out.cell (World.block_lt_of_cell? w _ hx580_1)).trans hx580_1
       have HR580_1 := Aside0.mk hi580_1
       have HC580_1 := Aside0.mk hl580_1
       clear hi580_1 hl580_1
       replace p580 := eq_true p580
       replace q580 := eq_true q580
       have p584 : 0 ≤ (x4_1 : Int) := of_decide_eq_true (by first | (with_reducible assumption) | assumption)
       have q584 : x4_1 < (l0.length : Int) := of_decide_eq_true (by first | (with_reducible assumption) | assumption)
       obtain ⟨ad584, A584_1, c584_1, e584, hx584_0, hx584_1, hl584_1, hi584_1⟩ := at_T60 HR0.out x4_1 p584 q584
       have hw584_1 := hx584_1
       have hw584_0 := hx584_0
       obtain rfl : ad580 = ad584 := (by injection e584)
       replace hx584_0 := (HB.out.cell (World.block_lt_of_cell? w _ hx584_0)).trans hx584_0
       replace hx584_1 := (HB.out.cell (World.block_lt_of_cell? w _ hx584_1)).trans hx584_1
       have HR584_1 := Aside0.mk hi584_1
       have HC584_1 := Aside0.mk hl584_1
       clear hi584_1 hl584_1
       replace p584 := eq_true p584
       replace q584 := eq_true q584
       have ea_ := Option.some.inj (hx580_1.symm.trans hx584_1)
       injection ea_ with ea_ en_ ec_
       subst ea_
       subst ec_
       clear en_
       refine start_ (n := 17) (S := fun w' => w'.cell? (ad580.add ((x4_1).toNat * 2)) = some (.int .i64 ((rd_T60 l0 x4_1).f0)) ∧ w'.cell? ⟨(ad580.add ((x4_1).toNat * 2)).block, (ad580.add ((x4_1).toNat * 2)).off + 1, none⟩ = some (.slice A580_1 ((rd_T60 l0 x4_1).f1).length c580_1) ∧ w'.cell? (ad580.add ((x4_1).toNat * 2)) = some (.int .i64 ((rd_T60 l0 x4_1).f0)) ∧ w'.cell? ⟨(ad580.add ((x4_1).toNat * 2)).block, (ad580.add ((x4_1).toNat * 2)).off + 1, none⟩ = some (.slice A580_1 ((rd_T60 l0 x4_1).f1).length c580_1)) (ds := []) #[false, false, false, false, false, false, false, false, false, false, false, false, false, false, false, false, false] (by kernel_rfl) rfl rfl ⟨((HB.out.cell (World.block_lt_of_cell? w _ hw580_0)).trans hw580_0), ((HB.out.cell (World.block_lt_of_cell? w _ hw580_1)).trans hw580_1), ((HB.out.cell (World.block_lt_of_cell? w _ hw584_0)).trans hw584_0), ((HB.out.cell (World.block_lt_of_cell? w _ hw584_1)).trans hw584_1)⟩ (fun hHeld => ?_); refine with_tabW tenetref24_copied.tab5 tenetref24_copied.bits5 (fun HT_ HW_ => ?_)
       generalize wr.drew = w6 at HO_3 HB HR580_1 HR584_1 hx580_0 hx580_1 hx584_0 hx584_1 hHeld ⊢
       refine pure_ (i := 0) (N := some 11) (v := ?_) (a' := ?_) #[true, false, false, false, false, false, false, false, false, false, false, false, false, false, false, false, false] rfl rfl (any_of HT_.out (by kernel_rfl)) (fun _ _ _ h => h) (Or.inl ⟨by rfl, ?_⟩) ?_ ?_
       rotate_left
       ·intro w'
        go_simp
        with_reducible rfl
       rotate_left
       ·simp only [Act.put, List.setIfInBounds_toArray, List.set_cons_zero, List.set_cons_succ, i64_w, i32_w]
        rfl
       refine pure_ (i := 1) (N := some 12) (v := ?_) (a' := ?_) #[true, true, false, false, false, false, false, false, false, false, false, false, false, false, false, false, false] rfl rfl (any_of HT_.out (by kernel_rfl)) (fun _ _ _ h => h) (Or.inl ⟨by rfl, ?_⟩) ?_ ?_
       rotate_left
       ·intro w'
        go_simp
        with_reducible rfl
       rotate_left
       ·simp only [Act.put, List.setIfInBounds_toArray, List.set_cons_zero, List.set_cons_succ, i64_w, i32_w]
        rfl
       refine pure_ (i := 2) (N := some 13) (v := ?_) (a' := ?_) #[true, true, true, false, false, false, false, false, false, false, false, false, false, false, false, false, false] rfl rfl (any_of HT_.out (by kernel_rfl)) (fun _ _ _ h => h) (Or.inl ⟨by rfl, ?_⟩) ?_ ?_
       rotate_left
       ·intro w'
        go_simp
        with_reducible rfl
       rotate_left
       ·simp only [Act.put, List.setIfInBounds_toArray, List.set_cons_zero, List.set_cons_succ, i64_w, i32_w]
        rfl
       refine pure_ (i := 3) (N := some 14) (v := ?_) (a' := ?_) #[true, true, true, true, false, false, false, false, false, false, false, false, false, false, false, false, false] rfl rfl (any_of HT_.out (by kernel_rfl)) (fun _ _ _ h => h) (Or.inl ⟨by rfl, ?_⟩) ?_ ?_
       rotate_left
       ·intro w'
        go_simp
        with_reducible rfl
       rotate_left
       ·simp only [Act.put, List.setIfInBounds_toArray, List.set_cons_zero, List.set_cons_succ, i64_w, i32_w]
        rfl
       refine pure_ (i := 4) (N := some 15) (v := ?_) (a' := ?_) #[true, true, true, true, true, false, false, false, false, false, false, false, false, false, false, false, false] rfl rfl (any_of HT_.out (by kernel_rfl)) (fun _ _ _ h => h) (Or.inl ⟨by rfl, ?_⟩) ?_ ?_
       rotate_left
       ·intro w'
        go_simp
        with_reducible rfl
       rotate_left
       ·simp only [Act.put, List.setIfInBounds_toArray, List.set_cons_zero, List.set_cons_succ, i64_w, i32_w]
        rfl
       refine pure_ (i := 7) (N := some 18) (v := ?_) (a' := ?_) #[true, true, true, true, true, false, false, true, false, false, false, false, false, false, false, false, false] rfl rfl (any_of HT_.out (by kernel_rfl)) (fun _ _ _ h => h) (Or.inl ⟨by rfl, ?_⟩) ?_ ?_
       rotate_left
       ·intro w'
        go_simp
        with_reducible rfl
       rotate_left
       ·simp only [Act.put, List.setIfInBounds_toArray, List.set_cons_zero, List.set_cons_succ, i64_w, i32_w]
        rfl
       refine pure_ (i := 8) (N := some 19) (v := ?_) (a' := ?_) #[true, true, true, true, true, false, false, true, true, false, false, false, false, false, false, false, false] rfl rfl (any_of HT_.out (by kernel_rfl)) (fun _ _ _ h => h) (Or.inl ⟨by rfl, ?_⟩) ?_ ?_
       rotate_left
       ·intro w'
        go_simp
        with_reducible rfl
       rotate_left
       ·simp only [Act.put, List.setIfInBounds_toArray, List.set_cons_zero, List.set_cons_succ, i64_w, i32_w]
        rfl
       refine pure_ (i := 9) (N := some 20) (v := ?_) (a' := ?_) #[true, true, true, true, true, false, false, true, true, true, false, false, false, false, false, false, false] rfl rfl (any_of HT_.out (by kernel_rfl)) (fun _ _ _ h => h) (Or.inl ⟨by rfl, ?_⟩) ?_ ?_
       rotate_left
       ·intro w'
        go_simp
        with_reducible rfl
       rotate_left
       ·simp only [Act.put, List.setIfInBounds_toArray, List.set_cons_zero, List.set_cons_succ, i64_w, i32_w]
        rfl
       refine pure_ (i := 10) (N := some 21) (v := ?_) (a' := ?_) #[true, true, true, true, true, false, false, true, true, true, true, false, false, false, false, false, false] rfl rfl (any_of HT_.out (by kernel_rfl)) (fun _ _ _ h => h) (Or.inl ⟨by rfl, ?_⟩) ?_ ?_
       rotate_left
       ·intro w'
        go_simp
        with_reducible rfl
       rotate_left
       ·simp only [Act.put, List.setIfInBounds_toArray, List.set_cons_zero, List.set_cons_succ, i64_w, i32_w]
        rfl
       refine take_ (i := 5) (N := some 16) (v := ?_) (a' := ?_) #[true, true, true, true, true, true, false, true, true, true, true, false, false, false, false, false, false] rfl rfl (take_ofW HT_.out HW_.out (by kernel_rfl)) (fun _ _ _ h => h) (Or.inl ⟨by rfl, ?_⟩) hHeld ?_ ?_
       rotate_left
       ·rintro w' ⟨s0, s1, s2, s3⟩
        go_simp
        with_reducible rfl
       rotate_left
       ·simp only [Act.put, List.setIfInBounds_toArray, List.set_cons_zero, List.set_cons_succ, i64_w, i32_w]
        rfl
       refine take_ (i := 11) (N := some 22) (v := ?_) (a' := ?_) #[true, true, true, true, true, true, false, true, true, true, true, true, false, false, false, false, false] rfl rfl (take_ofW HT_.out HW_.out (by kernel_rfl)) (fun _ _ _ h => h) (Or.inl ⟨by rfl, ?_⟩) hHeld ?_ ?_
       rotate_left
       ·rintro w' ⟨s0, s1, s2, s3⟩
        go_simp
        with_reducible rfl
       rotate_left
       ·simp only [Act.put, List.setIfInBounds_toArray, List.set_cons_zero, List.set_cons_succ, i64_w, i32_w]
        rfl
       refine one_ (i := 6) (N := some 17) #[true, true, true, true, true, true, true, true, true, true, true, true, false, false, false, false, false] rfl rfl (one_of HT_.out (by kernel_rfl)) (by decide) (fun K hK => ?_)
       refine Kd.R_lit_step (Kd.int .i64) _ 3 ?hg (N := 17) ?hd (xs := ([] : List Int)) (inner := []) (ok := fun _ => True) (okp := fun _ => True) ?hr ?hp (fun _ hk => hk) trivial (Below.refl _ _) (Nat.le_refl _) (by simp) ?_; (case hd => rfl); (case hg => rfl); (case hr => first | (go_simp; done) | (go_simp; rfl)); (case hp => exact (Reps.none _ _))
       intro v582 w7 ho8 hb hg_ hnew_
       clear hg_ hnew_
       (first | rw [← Ny581.out] at ho8 | (simp only [Int.reduceToNat] at ho8; rw [← Ny581.out] at ho8))
       have n0_ := Aside0.mk (Kd.S_elder' (by (with_reducible repeat (first | apply Kd.S_alloc | apply Kd.S_drewN | apply Kd.S_drew)); exact HO_3.out) (Kd.R_base ho8) hb)
       have n1_ := Aside0.mk (Kd.R_lower ho8 (below_size (by repeat (first | (with_reducible first | exact HB.out | apply below_alloc | apply pw_below_drewN | apply below_drew1) | exact HB.out))))
       have n2_ := Aside0.mk (below_step (by repeat (first | (with_reducible first | exact HB.out | apply below_alloc | apply pw_below_drewN | apply below_drew1) | exact HB.out)) hb)
       clear HO_3
       clear HB
       have HO_3 := n0_
       have HO583 := n1_
       have HB := n2_
       clear n0_ n1_ n2_
       clear hb ho8
       refine hK.out _ _ ⟨((HB.out.cell (World.block_lt_of_cell? w _ hw580_0)).trans hw580_0), ((HB.out.cell (World.block_lt_of_cell? w _ hw580_1)).trans hw580_1), ((HB.out.cell (World.block_lt_of_cell? w _ hw584_0)).trans hw584_0), ((HB.out.cell (World.block_lt_of_cell? w _ hw584_1)).trans hw584_1)⟩ (fun hHeld => ?_)
       clear hK K
       refine norm_ (a' := ?_) ?_ ?_
       rotate_left
       ·show Act.put _ (some 17) _ = _
        simp only [Act.put, List.setIfInBounds_toArray, List.set_cons_zero, List.set_cons_succ, i64_w, i32_w]
        rfl
       refine one_ (i := 12) (N := some 23) #[true, true, true, true, true, true, true, true, true, true, true, true, true, false, false, false, false] rfl rfl (one_of HT_.out (by kernel_rfl)) (by decide) (fun K hK => ?_)
       refine Kd.R_append_rows_step (Kd.int .i64) (w0 := w) w.heap.size (by rfl) (.tmp 17) (.tmp 22) 33 3 (.int .i64 0) 8 rfl Try.underlying33 info3 rfl (by decide) (by omega) v582 y581 ((rd_T60 l0 x4_1).f1) _ _ _ (fun _ => True) (fun _ => False) rfl rfl ?aO ?aR (fun _ _ h => h) (fun _ h => h.elim) ?aF ?aB ?aS ?aL ?_
       (case aR => repeat (first | exact (Kd.C_below HR584_1.out HB.out) | (with_reducible refine Kd.C_alloc ?_ _) | (with_reducible refine Kd.C_drewN ?_ _) | (with_reducible refine Kd.C_drew ?_)))
       (case aB => exact (by repeat (first | (with_reducible first | exact HB.out | apply below_alloc | apply pw_below_drewN | apply below_drew1) | exact HB.out)))
       (case aF => exact (fun _ _ => trivial))
       (case aO => exact (by (with_reducible repeat (first | apply Kd.R_alloc | apply Kd.R_drewN | apply Kd.R_drew)); exact HO583.out))
       (case aS => exact (below_size (by repeat (first | (with_reducible first | exact HB.out | apply below_alloc | apply pw_below_drewN | apply below_drew1) | exact HB.out))))
       (case aL => have := LMc4.out; omega)
       intro v586 w9 ho hb hg hat
       rw [← Ny585.out] at ho
       have n0_ := Aside0.mk (Kd.S_after (ok := (fun _ => True)) (by (with_reducible repeat (first | apply Kd.S_alloc | apply Kd.S_drewN | apply Kd.S_drew)); exact HO_3.out) hg hat)
       have n1_ := Aside0.mk (hb)
       have n2_ := Aside0.mk (ho)
       clear HO_3
       clear HB
       clear HO583
       have HO_3 := n0_
       have HB := n1_
       have HO587 := n2_
       clear n0_ n1_ n2_
       clear ho hb hg hat
       obtain ⟨Ao10, co10, eo10⟩ := Kd.R_slice HO587.out
       (first | subst eo10 | (injection eo10 with f1_ f2_ f3_; have f4_ := f1_.symm; have f5_ := f3_.symm; clear f1_ f2_ f3_; subst f4_; subst f5_))
       refine hK.out _ _ ⟨((HB.out.cell (World.block_lt_of_cell? w _ hw580_0)).trans hw580_0), ((HB.out.cell (World.block_lt_of_cell? w _ hw580_1)).trans hw580_1), ((HB.out.cell (World.block_lt_of_cell? w _ hw584_0)).trans hw584_0), ((HB.out.cell (World.block_lt_of_cell? w _ hw584_1)).trans hw584_1)⟩ (fun hHeld => ?_)
       clear hK K
       refine norm_ (a' := ?_) ?_ ?_
       rotate_left
       ·show Act.put _ (some 23) _ = _
        simp only [Act.put, List.setIfInBounds_toArray, List.set_cons_zero, List.set_cons_succ, i64_w, i32_w]
        rfl
       refine pure_ (i := 13) (N := some 24) (v := ?_) (a' := ?_) #[true, true, true, true, true, true, true, true, true, true, true, true, true, true, false, false, false] rfl rfl (any_of HT_.out (by kernel_rfl)) (fun _ _ _ h => h) (Or.inl ⟨by rfl, ?_⟩) ?_ ?_
       rotate_left
       ·intro w'
        go_simp
        with_reducible rfl
       rotate_left
       ·simp only [Act.put, List.setIfInBounds_toArray, List.set_cons_zero, List.set_cons_succ, i64_w, i32_w]
        rfl
       refine one_ (i := 14) (N := some 25) #[true, true, true, true, true, true, true, true, true, true, true, true, true, true, true, false, false] rfl rfl (one_of HT_.out (by kernel_rfl)) (by decide) (fun K hK => ?_)
       refine value_ (w1 := ?_) (v := ?_) (by rfl) rfl ?_ ?_
       rotate_left 2
       ·go_simp
        constructor
        ·rfl
        ·rfl
       refine hK.out _ _ ⟨(World.cell?_alloc_lt _ _ _ (World.block_lt_of_cell? _ _ (((HB.out.cell (World.block_lt_of_cell? w _ hw580_0)).trans hw580_0)))).trans (((HB.out.cell (World.block_lt_of_cell? w _ hw580_0)).trans hw580_0)), (World.cell?_alloc_lt _ _ _ (World.block_lt_of_cell? _ _ (((HB.out.cell (World.block_lt_of_cell? w _ hw580_1)).trans hw580_1)))).trans (((HB.out.cell (World.block_lt_of_cell? w _ hw580_1)).trans hw580_1)), (World.cell?_alloc_lt _ _ _ (World.block_lt_of_cell? _ _ (((HB.out.cell (World.block_lt_of_cell? w _ hw584_0)).trans hw584_0)))).trans (((HB.out.cell (World.block_lt_of_cell? w _ hw584_0)).trans hw584_0)), (World.cell?_alloc_lt _ _ _ (World.block_lt_of_cell? _ _ (((HB.out.cell (World.block_lt_of_cell? w _ hw584_1)).trans hw584_1)))).trans (((HB.out.cell (World.block_lt_of_cell? w _ hw584_1)).trans hw584_1))⟩ (fun hHeld => ?_)
       clear hK K
       refine norm_ (a' := ?_) ?_ ?_
       rotate_left
       ·show Act.put _ (some 25) _ = _
        simp only [Act.put, List.setIfInBounds_toArray, List.set_cons_zero, List.set_cons_succ, i64_w, i32_w]
        rfl
       refine one_ (i := 15) (N := some 26) #[true, true, true, true, true, true, true, true, true, true, true, true, true, true, true, true, false] rfl rfl (one_of HT_.out (by kernel_rfl)) (by decide) (fun K hK => ?_)
       refine Kd.S_append_step k60 (w0 := w) w.heap.size (by rfl) (.tmp 11) (.tmp 25) 22 60 (.agg #[(.int .i64 0), (.slice none 0 0)]) 32 rfl Try.underlying22 info60 rfl (by decide) (by omega) u3 x3_1 (⟨(rd_T60 l0 x4_1).f0, y585⟩ : S60) [.int .i64 ((rd_T60 l0 x4_1).f0), .slice Ao10 y585.length co10] (fun _ => True) (fun k_ => some k_ = (.slice Ao10 y585.length co10 : Value).ownBlock) rfl rfl ?aP (fun k_ hk_ => ((Kd.R_mono (ok' := fun k_ => ((fun _ => True)) k_ ∧ some k_ ≠ (u3 : Value).ownBlock) (Kd.R_apart' (HO587.out) (Kd.S_typed HO_3.out) (by decide)) (fun k_ hk => ⟨trivial, hk.2⟩))).1 k_ hk_.symm) ?aF ?aO ?aB ?aS ?aL ?_
       (case aP => exact k60_mkM _ _ _ (⟨(rd_T60 l0 x4_1).f0, y585⟩ : S60) (Kd.R_mono (Kd.R_tight rfl (Kd.R_mono (ok' := fun k_ => ((fun _ => True)) k_ ∧ some k_ ≠ (u3 : Value).ownBlock) (Kd.R_apart' (HO587.out) (Kd.S_typed HO_3.out) (by decide)) (fun k_ hk => ⟨trivial, hk.2⟩))) (fun _ h_ => h_)))
       (case aB => exact (by repeat (first | (with_reducible first | exact HB.out | apply below_alloc | apply pw_below_drewN | apply below_drew1) | exact HB.out)))
       (case aF => exact (fun _ _ => trivial))
       (case aO => exact (by (with_reducible repeat (first | apply Kd.S_alloc | apply Kd.S_drewN | apply Kd.S_drew)); exact Kd.S_mono HO_3.out (fun k_ hk => ⟨trivial, fun e_ => hk.2 e_⟩)))
       (case aS => exact (below_size (by repeat (first | (with_reducible first | exact HB.out | apply below_alloc | apply pw_below_drewN | apply below_drew1) | exact HB.out))))
       (case aL => have := LMc5.out; omega)
       intro v589 w11 ho hb hg hat
       rw [← Ny588.out] at ho
       have n0_ := Aside0.mk (hb)
       have n1_ := Aside0.mk (ho)
       clear HB
       clear HO_3
       clear HO587
       have HB := n0_
       have HO590 := n1_
       clear n0_ n1_
       clear ho hb hg hat
       refine hK.out _ _ ⟨((HB.out.cell (World.block_lt_of_cell? w _ hw580_0)).trans hw580_0), ((HB.out.cell (World.block_lt_of_cell? w _ hw580_1)).trans hw580_1), ((HB.out.cell (World.block_lt_of_cell? w _ hw584_0)).trans hw584_0), ((HB.out.cell (World.block_lt_of_cell? w _ hw584_1)).trans hw584_1)⟩ (fun hHeld => ?_)
       clear hK K
       refine norm_ (a' := ?_) ?_ ?_
       rotate_left
       ·show Act.put _ (some 26) _ = _
        simp only [Act.put, List.setIfInBounds_toArray, List.set_cons_zero, List.set_cons_succ, i64_w, i32_w]
        rfl
       refine pure_ (i := 16) (N := some 3) (v := ?_) (a' := ?_) #[true, true, true, true, true, true, true, true, true, true, true, true, true, true, true, true, true] rfl rfl (any_of HT_.out (by kernel_rfl)) (fun _ _ _ h => h) (Or.inl ⟨by rfl, ?_⟩) ?_ ?_
       rotate_left
       ·intro w'
        go_simp
        with_reducible rfl
       rotate_left
       ·simp only [Act.put, List.setIfInBounds_toArray, List.set_cons_zero, List.set_cons_succ, i64_w, i32_w]
        rfl
       refine done_ (done_of HT_.out (by kernel_rfl)) ?_
       try go_wp2
       go_roundg k1
       case measure => have := HK1.out; omega
       case rel => exact ⟨(y588), (wrap64 (x4_1 + 1)), (by first | rfl | (simp; done) | (simp [*]; done)), H', ⟨by have := HK1.out; omega⟩, ⟨by (with_reducible repeat (first | apply Kd.S_alloc | apply Kd.S_drewN | apply Kd.S_drew)); exact HO590.out⟩, ⟨by repeat (first | (with_reducible first | exact HB.out | apply below_alloc | apply pw_below_drewN | apply below_drew1) | exact HB.out)⟩⟩
      ·rw [if_neg c5] at H
       exact absurd H (by simp)
     ·rw [if_neg c4] at H
      exact absurd H (by simp)
    ·rw [if_neg c3] at H
     exact absurd H (by simp)
   ·rw [if_neg c2] at H
    have c2b0 : decide (x4_1 < (l0.length : Int)) = false := decide_eq_false c2
    clear c2
    obtain rfl := Option.some.inj H
    go_wp2
    go_ret
    exact ⟨_, by first | rfl | (simp [errW_none, errW_some] <;> rfl) | (simp [*, errW_none, errW_some] <;> rfl), by (with_reducible repeat (first | apply Kd.S_alloc | apply Kd.S_drewN | apply Kd.S_drew)); exact HO_3.out, by repeat (first | (with_reducible first | exact HB.out | apply below_alloc | apply pw_below_drewN | apply below_drew1) | exact HB.out)⟩
end Go.Proofs.Ythkclagcbjnckaa.Pa


namespace Go.Proofs.Ythkclagcbjnckaa.Pa
open Go.RowKit Go.Proofs.YthkclagcbjnckaaW.PrintWords Go.Proofs.YthkclagcbjnckaaW.PrintLast Go.Proofs.YthkclagcbjnckaaW.PrintMore
attribute [local go_sem] max2_int min2_int max_two min_two max_three min_three max_four min_four
set_option linter.unusedVariables false
set_option linter.unusedSimpArgs false
end Go.Proofs.Ythkclagcbjnckaa.Pa

namespace Go.Proofs.Ythkclagcbjnckaa.Pa
open Go.RowKit Go.Proofs.YthkclagcbjnckaaW.PrintWords Go.Proofs.YthkclagcbjnckaaW.PrintLast Go.Proofs.YthkclagcbjnckaaW.PrintMore
set_option linter.unusedVariables false
section
variable (k : Nat) (a b : List S60) (i j : Int)
theorem eqm_l0_ge (h : ¬ i < (a.length : Int)) : tenetref24_EqMonos.l0 (k + 1) a b i = some true := by rw [tenetref24_EqMonos.l0, if_neg h]
theorem eqm_l0_ne (h : i < (a.length : Int)) (h0 : 0 ≤ i) (h1 : i < (b.length : Int)) (he : ¬ (rd_T60 a i).f0 = (rd_T60 b i).f0) : tenetref24_EqMonos.l0 (k + 1) a b i = tenetref24_EqMonos.j1 k a b i true := by
  rw [tenetref24_EqMonos.l0, if_pos h, if_pos h0, if_pos h1, if_neg he]
theorem eqm_l0_eq (h : i < (a.length : Int)) (h0 : 0 ≤ i) (h1 : i < (b.length : Int)) (he : (rd_T60 a i).f0 = (rd_T60 b i).f0) : tenetref24_EqMonos.l0 (k + 1) a b i = tenetref24_EqMonos.j1 k a b i ((((rd_T60 a i).f1).length : Int) != (((rd_T60 b i).f1).length : Int)) := by
  rw [tenetref24_EqMonos.l0, if_pos h, if_pos h0, if_pos h1, if_pos he]
theorem eqm_j1_true : tenetref24_EqMonos.j1 (k + 1) a b i true = some false := by rw [tenetref24_EqMonos.j1, if_pos rfl]
theorem eqm_j1_false : tenetref24_EqMonos.j1 (k + 1) a b i false = tenetref24_EqMonos.l1 k a b i 0 := by rw [tenetref24_EqMonos.j1, if_neg (by simp)]
theorem eqm_l1_ge (h0 : 0 ≤ i) (h : i < (a.length : Int)) (hj : ¬ j < (((rd_T60 a i).f1).length : Int)) : tenetref24_EqMonos.l1 (k + 1) a b i j = tenetref24_EqMonos.l0 k a b (wrap64 (i + 1)) := by
  rw [tenetref24_EqMonos.l1, if_pos h0, if_pos h, if_neg hj]
theorem eqm_l1_lt (h0 : 0 ≤ i) (h : i < (a.length : Int)) (hj : j < (((rd_T60 a i).f1).length : Int)) (hj0 : 0 ≤ j) (hb : i < (b.length : Int)) (hjb : j < (((rd_T60 b i).f1).length : Int)) : tenetref24_EqMonos.l1 (k + 1) a b i j =
    if rd ((rd_T60 a i).f1) j = rd ((rd_T60 b i).f1) j then tenetref24_EqMonos.l1 k a b i (wrap64 (j + 1)) else some false := by
  rw [tenetref24_EqMonos.l1, if_pos h0, if_pos h, if_pos hj, if_pos hj0, if_pos hb, if_pos hjb]
end
theorem eqMonos_ev (a b : List S60) (ha : a.length ≤ 1000000000) (hla : ∀ x ∈ a, x.f1.length ≤ 1000000000) : Ev (fun k => tenetref24_EqMonos.f k a b) (decide (pm a = pm b)) := by
  by_cases hab : a.length = b.length
  case neg =>
    have : pm a ≠ pm b := fun e => hab (by have := congrArg List.length e; rwa [pm_length, pm_length] at this)
    rw [decide_eq_false this]
    refine Ev.congr (f := fun _ => some false) (fun k => ?_) (Ev.now _)
    rw [tenetref24_EqMonos.f, if_neg (by omega)]
  have inner : ∀ (i : Nat) (x y : S60) (res : Bool), rd_T60 a (i : Int) = x → rd_T60 b (i : Int) = y → i < a.length → x.f1.length = y.f1.length → x.f1.length ≤ 1000000000 →
      Ev (fun k => tenetref24_EqMonos.l0 k a b ((i + 1 : Nat) : Int)) res →
      ∀ (rx px ry py : List Int), x.f1 = px ++ rx → y.f1 = py ++ ry → px.length = py.length → Ev (fun k => tenetref24_EqMonos.l1 k a b (i : Int) (px.length : Int)) (decide (rx = ry) && res) := by
    intro i x y res ex ey hi hl hxl hres rx
    have hib : i < b.length := by omega
    induction rx with
    | nil =>
      intro px ry py h1 h2 h3
      rw [List.append_nil] at h1
      have : ry = [] := by
        have := congrArg List.length h2
        rw [List.length_append, ← h3, ← h1, ← hl] at this
        exact List.length_eq_zero_iff.1 (by omega)
      subst this
      refine Ev.step (fun k => eqm_l1_ge k a b _ _ (by omega) (by omega) (by rw [ex, h1]; omega)) ?_
      rw [wrap_succ _ (by omega), decide_eq_true rfl, Bool.true_and]
      exact hres
    | cons n rx ih =>
      intro px ry py h1 h2 h3
      have hlp : px.length < x.f1.length := by rw [h1]; simp
      cases ry with
      | nil => exfalso; rw [List.append_nil] at h2; rw [← h2] at h3; omega
      | cons m ry =>
        have e1 : rd x.f1 (px.length : Int) = n := by rw [h1]; exact rdI_mid _ _ _
        have e2 : rd y.f1 (px.length : Int) = m := by rw [h2, h3]; exact rdI_mid _ _ _
        refine Ev.step (fun k => eqm_l1_lt k a b _ _ (by omega) (by omega) (by rw [ex]; omega) (by omega) (by omega) (by rw [ey, ← hl]; omega)) ?_
        rw [ex, ey, e1, e2]
        by_cases hnm : n = m
        · simp only [if_pos hnm]
          rw [wrap_succ _ (by omega)]
          have h := ih (px ++ [n]) ry (py ++ [m]) (by rw [h1]; simp) (by rw [h2]; simp) (by simp [h3])
          rw [List.length_append, List.length_singleton] at h
          have e : decide (n :: rx = m :: ry) = decide (rx = ry) := by rw [decide_eq_decide]; simp [hnm]
          rw [e]
          exact h
        · simp only [if_neg hnm]
          have e : decide (n :: rx = m :: ry) = false := decide_eq_false (by simp [hnm])
          rw [e, Bool.false_and]
          exact Ev.now _
  have loop : ∀ (r pre s pre' : List S60), a = pre ++ r → b = pre' ++ s → pre.length = pre'.length → Ev (fun k => tenetref24_EqMonos.l0 k a b (pre.length : Int)) (decide (pm r = pm s)) := by
    intro r
    induction r with
    | nil =>
      intro pre s pre' h1 h2 h3
      rw [List.append_nil] at h1
      have : s = [] := by
        have := congrArg List.length h2
        rw [List.length_append, ← h3, ← h1, ← hab] at this
        exact List.length_eq_zero_iff.1 (by omega)
      subst this
      rw [decide_eq_true rfl]
      exact Ev.step (f := fun _ => some true) (fun k => eqm_l0_ge k a b _ (by rw [h1]; omega)) (Ev.now _)
    | cons x r ih =>
      intro pre s pre' h1 h2 h3
      cases s with
      | nil =>
        exfalso
        rw [List.append_nil] at h2
        rw [h1, h2, List.length_append, List.length_cons] at hab
        omega
      | cons y s =>
        have hlt : pre.length < a.length := by rw [h1]; simp
        have ex : rd_T60 a (pre.length : Int) = x := by rw [h1]; exact rdM_mid _ _ _
        have ey : rd_T60 b (pre.length : Int) = y := by rw [h2, h3]; exact rdM_mid _ _ _
        have e0 : (pm (x :: r) = pm (y :: s)) ↔ (x.f0 = y.f0 ∧ x.f1 = y.f1 ∧ pm r = pm s) := by
          simp only [pm, pairOf, List.map_cons, List.cons.injEq, Prod.mk.injEq]
          exact ⟨fun h => ⟨h.1.2, h.1.1, h.2⟩, fun h => ⟨⟨h.2.1, h.1⟩, h.2.2⟩⟩
        by_cases hf : x.f0 = y.f0
        · refine Ev.step (fun k => eqm_l0_eq k a b _ (by omega) (by omega) (by omega) (by rw [ex, ey]; exact hf)) ?_
          rw [ex, ey]
          by_cases hl : x.f1.length = y.f1.length
          · have hb : (((x.f1).length : Int) != ((y.f1).length : Int)) = false := by rw [hl]; exact bne_self_eq_false _
            rw [hb]
            refine Ev.step (fun k => eqm_j1_false k a b _) ?_
            have hn := ih (pre ++ [x]) s (pre' ++ [y]) (by rw [h1]; simp) (by rw [h2]; simp) (by simp [h3])
            rw [List.length_append, List.length_singleton] at hn
            have := inner pre.length x y _ ex ey hlt hl (hla x (by rw [h1]; simp)) hn x.f1 [] y.f1 [] rfl rfl rfl
            have e : decide (pm (x :: r) = pm (y :: s)) = (decide (x.f1 = y.f1) && decide (pm r = pm s)) := by
              rw [Bool.eq_iff_iff, decide_eq_true_iff, Bool.and_eq_true, decide_eq_true_iff, decide_eq_true_iff, e0]
              exact ⟨fun h => h.2, fun h => ⟨hf, h⟩⟩
            rw [e]
            exact this
          · have hb : (((x.f1).length : Int) != ((y.f1).length : Int)) = true := by rw [bne_iff_ne]; omega
            rw [hb, decide_eq_false (fun h => hl (by rw [(e0.1 h).2.1]))]
            exact Ev.step (f := fun _ => some false) (fun k => eqm_j1_true k a b _) (Ev.now _)
        · rw [decide_eq_false (fun h => hf (e0.1 h).1)]
          refine Ev.step (fun k => eqm_l0_ne k a b _ (by omega) (by omega) (by omega) (by rw [ex, ey]; exact hf)) ?_
          exact Ev.step (f := fun _ => some false) (fun k => eqm_j1_true k a b _) (Ev.now _)
  refine Ev.congr (f := fun k => tenetref24_EqMonos.l0 k a b (([] : List S60).length : Int)) (fun k => ?_) (loop a [] b [] rfl rfl rfl)
  rw [tenetref24_EqMonos.f, if_pos (by omega)]
  rfl
section
variable (k : Nat) (l acc : List S60) (i : Int)
theorem copied_ge (h : ¬ i < (l.length : Int)) : tenetref24_copied.l0 (k + 1) l acc i = some acc := by rw [tenetref24_copied.l0, if_neg h]
theorem copied_lt (h : i < (l.length : Int)) (h0 : 0 ≤ i) (h1 : ([] : List Int).length + (rd_T60 l i).f1.length < 17592186044416) (h2 : acc.length < 4398046511104) :
    tenetref24_copied.l0 (k + 1) l acc i = tenetref24_copied.l0 k l (acc ++ [⟨(rd_T60 l i).f0, [] ++ (rd_T60 l i).f1⟩]) (wrap64 (i + 1)) := by
  rw [tenetref24_copied.l0, if_pos h, if_pos h0, Option.bind_some, if_pos h1, if_pos h2]
end
theorem lt17b {n : Nat} (h : n ≤ 1000000000) : ([] : List Int).length + n < 17592186044416 := by simp; omega
theorem lt42' {n : Nat} (h : n ≤ 1000000000) : n < 4398046511104 := by omega
theorem copied_ev (l : List S60) (hl : l.length ≤ 1000000000) (hle : ∀ x ∈ l, x.f1.length ≤ 1000000000) : Ev (fun k => tenetref24_copied.f k l) l := by
  have loop : ∀ (r pre : List S60), l = pre ++ r → Ev (fun k => tenetref24_copied.l0 k l pre (pre.length : Int)) l := by
    intro r
    induction r with
    | nil =>
      intro pre hp
      rw [List.append_nil] at hp
      refine Ev.step (f := fun _ => some pre) (fun k => copied_ge k l pre _ (by rw [hp]; omega)) ?_
      rw [hp]
      exact Ev.now _
    | cons x r ih =>
      intro pre hp
      have hlt : pre.length < l.length := by rw [hp]; simp
      have ex : rd_T60 l (pre.length : Int) = x := by rw [hp]; exact rdM_mid _ _ _
      refine Ev.step (fun k => copied_lt k l pre _ (by omega) (by omega) (by rw [ex]; exact lt17b (hle x (by rw [hp]; simp))) (lt42' (by omega))) ?_
      rw [ex, wrap_succ _ (by omega), List.nil_append]
      have h := ih (pre ++ [x]) (by rw [hp]; simp)
      rw [List.length_append, List.length_singleton] at h
      exact h
  exact Ev.congr (fun k => rfl) (loop l [] rfl)
noncomputable def errN (x : S27) : Int := if validB x = true then (if (polyS x).isSome = true then 0 else 2) else 4
end Go.Proofs.Ythkclagcbjnckaa.Pa

namespace Go.Proofs.Ythkclagcbjnckaa.Pa
open Go.RowKit Go.Proofs.RawMap Go.Proofs.YthkclagcbjnckaaW.PrintWords Go.Proofs.YthkclagcbjnckaaW.PrintLast Go.Proofs.YthkclagcbjnckaaW.PrintMore
set_option linter.unusedVariables false
set_option linter.unusedSimpArgs false
def IsR (w : World) (l : List Int) (e : Ending) (w' : World) : Prop := ∃ v, e = .returned v ∧ (Kd.int .i64).R 3 w' w.heap.size (fun _ => True) v l ∧ Below w.heap.size w w'
set_option maxRecDepth 100000 in
set_option maxHeartbeats 4000000 in
theorem cloneI_c (A : Option Addr) (c : Nat) (l : List Int) (w : World) (hr : (Kd.int .i64).C w A l.length l) (hl : l.length ≤ 1000000000) :
    Calls Try.prog 89 #[.slice A l.length c] w (IsR w l) := by
  have q33 : ∀ (w : World) (a : Option Addr) (n c n' c' : Nat), (binOp .eql 33 (.slice a n c) (.slice none n' c')).run Try.prog w = .ok (.bool a.isNone) w := fun w a n c n' c' => Lib.run_eql_slice_nil w _ _ a n c n' c' Try.underlying33
  have HR := Aside0.mk hr
  have HL := Aside0.mk hl
  clear hl
  cases A with
  | none =>
    have : l = [] := by
      cases l with
      | nil => rfl
      | cons a r => obtain ⟨ad, e, _⟩ := hr.2.2 (by simp); cases e
    clear hr
    subst this
    go_enter Try.func89, Try.ntmps89
    go_wp2
    go_ret
    exact ⟨_, rfl, Kd.R_nil _ _ _ _ _, Below.refl _ _⟩
  | some a =>
    clear hr
    have HB := Aside0.mk (Below.refl w.heap.size w)
    go_enter Try.func89, Try.ntmps89
    go_wp2_with (first
      | ((with_reducible refine gate_dst (N := 5) rfl ?_); refine Kd.R_lit (Kd.int .i64) (w0 := w) w.heap.size 3 ?hg (N := 5) ?hd (xs := ([] : List Int)) (inner := []) (ok := fun _ => True) (okp := fun _ => True) ?hr ?hp (fun _ hk => hk) trivial HB.out (Nat.le_refl _) (by simp) ?_; (case hd => rfl); (case hg => rfl); (case hr => first | (go_simp; done) | (go_simp; rfl)); (case hp => exact Reps.none _ _); intro v1 w1 ho hb hg hat; have HO := Aside0.mk ho; have HB1 := Aside0.mk hb; clear ho hb hg hat)
      | ((with_reducible refine gate_dst (N := 7) rfl ?_); refine Kd.R_append_rows (Kd.int .i64) (w0 := w) w.heap.size rfl (.tmp 5) (.tmp 6) 33 3 (.int .i64 0) 8 rfl Try.underlying33 info3 rfl (by decide) (by omega) v1 [] l _ _ _ (fun _ => True) (fun _ => False) rfl rfl ?aO ?aR (fun _ _ h => h) (fun _ h => h.elim) (fun _ _ => trivial) ?aB ?aS ?aL ?_; (case aR => exact Kd.C_below HR.out HB1.out); (case aO => exact HO.out); (case aB => exact HB1.out); (case aS => exact HB1.out.size); (case aL => have := HL.out; simp; omega); intro v2 w2 ho hb hg hat; have HO2 := Aside0.mk ho; have HB2 := Aside0.mk hb; clear ho hb hg hat))
    go_ret
    exact ⟨_, rfl, HO2.out, HB2.out⟩
end Go.Proofs.Ythkclagcbjnckaa.Pa


namespace Go.Proofs
open Go.Shelf
def Try.sortMono_ren : Go.Shelf.Ren := ⟨fun | 6 => 90 | 15 => 111 | 14 => 110 | 28 => 129 | 29 => 130 | 20 => 121 | 21 => 122 | 22 => 123 | 23 => 124 | 24 => 125 | 25 => 126 | 26 => 127 | 27 => 128 | 46 => 137 | 47 => 138 | 48 => 139 | 49 => 140 | 50 => 141 | 57 => 146 | n => n, fun | 22 => 22 | 24 => 60 | 25 => 105 | 3 => 3 | 39 => 128 | 0 => 0 | 53 => 142 | 55 => 77 | 4 => 4 | 46 => 136 | 45 => 135 | 50 => 110 | 5 => 5 | 9 => 9 | 66 => 148 | 70 => 152 | 76 => 156 | 77 => 67 | n => n, fun | n => n⟩
theorem Try.sortMono : Go.Proofs.SlLaysF0.n6 Try.prog Try.sortMono_ren := {
  mixed := by kernel_rfl
  f6 := ⟨Try.f90.name, by decide, Try.func90.trans (congrArg some (by kernel_rfl))⟩
  f14 := ⟨Try.f110.name, by decide, Try.func110.trans (congrArg some (by kernel_rfl))⟩
  f15 := Try.func111.trans (congrArg some (by kernel_rfl))
  f20 := ⟨Try.f121.name, by decide, Try.func121.trans (congrArg some (by kernel_rfl))⟩
  f21 := ⟨Try.f122.name, by decide, Try.func122.trans (congrArg some (by kernel_rfl))⟩
  f22 := ⟨Try.f123.name, by decide, Try.func123.trans (congrArg some (by kernel_rfl))⟩
  f23 := ⟨Try.f124.name, by decide, Try.func124.trans (congrArg some (by kernel_rfl))⟩
  f24 := ⟨Try.f125.name, by decide, Try.func125.trans (congrArg some (by kernel_rfl))⟩
  f25 := ⟨Try.f126.name, by decide, Try.func126.trans (congrArg some (by kernel_rfl))⟩
  f26 := ⟨Try.f127.name, by decide, Try.func127.trans (congrArg some (by kernel_rfl))⟩
  f27 := ⟨Try.f128.name, by decide, Try.func128.trans (congrArg some (by kernel_rfl))⟩
  f28 := Try.func129.trans (congrArg some (by kernel_rfl))
  f29 := Try.func130.trans (congrArg some (by kernel_rfl))
  f46 := ⟨Try.f137.name, by decide, Try.func137.trans (congrArg some (by kernel_rfl))⟩
  f47 := Try.func138.trans (congrArg some (by kernel_rfl))
  f48 := Try.func139.trans (congrArg some (by kernel_rfl))
  f49 := ⟨Try.f140.name, by decide, Try.func140.trans (congrArg some (by kernel_rfl))⟩
  f50 := ⟨Try.f141.name, by decide, Try.func141.trans (congrArg some (by kernel_rfl))⟩
  f57 := ⟨Try.f146.name, by decide, Try.func146.trans (congrArg some (by kernel_rfl))⟩
  t0 := Try.underlying0
  a0 := Try.isAgg0
  z0 := Try.sizeOf0
  v0 := Try.zeroValue0
  t3 := Try.underlying3
  a3 := Try.isAgg3
  z3 := Try.sizeOf3
  v3 := Try.zeroValue3
  t4 := Try.underlying4
  a4 := Try.isAgg4
  z4 := Try.sizeOf4
  v4 := Try.zeroValue4
  t5 := Try.underlying5
  a5 := Try.isAgg5
  z5 := Try.sizeOf5
  v5 := Try.zeroValue5
  t9 := Try.underlying9
  a9 := Try.isAgg9
  z9 := Try.sizeOf9
  v9 := Try.zeroValue9
  t22 := Try.underlying22
  a22 := Try.isAgg22
  z22 := Try.sizeOf22
  v22 := Try.zeroValue22
  t25 := Try.underlying105
  a25 := Try.isAgg105
  z25 := Try.sizeOf105
  v25 := Try.zeroValue105
  t39 := Try.underlying128
  a39 := Try.isAgg128
  z39 := Try.sizeOf128
  v39 := Try.zeroValue128
  t45 := Try.underlying135
  a45 := Try.isAgg135
  z45 := Try.sizeOf135
  v45 := Try.zeroValue135
  t46 := Try.underlying136
  a46 := Try.isAgg136
  z46 := Try.sizeOf136
  v46 := Try.zeroValue136
  t50 := Try.underlying110
  a50 := Try.isAgg110
  z50 := Try.sizeOf110
  v50 := Try.zeroValue110
  t53 := Try.underlying142
  a53 := Try.isAgg142
  z53 := Try.sizeOf142
  v53 := Try.zeroValue142
  t55 := Try.underlying77
  a55 := Try.isAgg77
  z55 := Try.sizeOf77
  v55 := Try.zeroValue77
  t66 := Try.underlying148
  a66 := Try.isAgg148
  z66 := Try.sizeOf148
  v66 := Try.zeroValue148
  t70 := Try.underlying152
  a70 := Try.isAgg152
  z70 := Try.sizeOf152
  v70 := Try.zeroValue152
  t76 := Try.underlying156
  a76 := Try.isAgg156
  z76 := Try.sizeOf156
  v76 := Try.zeroValue156
  t77 := Try.underlying67
  a77 := Try.isAgg67
  z77 := Try.sizeOf67
  v77 := Try.zeroValue67 }
end Go.Proofs

namespace Go.Proofs.Ythkclagcbjnckaa.Pa
open Go.RowKit Go.Proofs.RawMap Go.Proofs.YthkclagcbjnckaaW.PrintWords Go.Proofs.YthkclagcbjnckaaW.PrintLast Go.Proofs.YthkclagcbjnckaaW.PrintMore
set_option linter.unusedVariables false
set_option linter.unusedSimpArgs false
theorem drewN_grow (w : World) (os : Array Obj) (n : Nat) : (Go.Sort.grow w os).drewN n = Go.Sort.grow (w.drewN n) os := rfl
def CmpPost (r : Int) (W : World) (e : Ending) (w' : World) : Prop := e = .returned (.int .i64 r) ∧ ∃ q os', w' = Go.Sort.grow (W.drewN q) os'
set_option maxHeartbeats 1000000 in
theorem cmp91_c (x y : S60) (Ax Ay : Option Addr) (cx cy : Nat) (W : World) (hrx : (Kd.int .i64).C W Ax x.f1.length x.f1) (hcx : x.f1.length ≤ cx) (hry : (Kd.int .i64).C W Ay y.f1.length y.f1) (hcy : y.f1.length ≤ cy) (hl : y.f1.length ≤ 1000) :
    Calls Try.prog 91 #[.agg #[.int .i64 x.f0, .slice Ax x.f1.length cx], .agg #[.int .i64 y.f0, .slice Ay y.f1.length cy]] W (CmpPost (lexC y.f1 x.f1) W) := by
  have HB := Aside0.mk (below_alloc (below_alloc (Below.refl W.heap.size W) (.cells #[.int .i64 x.f0, .slice Ax x.f1.length cx] 60)) (.cells #[.int .i64 y.f0, .slice Ay y.f1.length cy] 60))
  have HC := Aside0.mk (cmp_c Ay cy y.f1 Ax cx x.f1 _ (Kd.C_below hry HB.out) hcy (Kd.C_below hrx HB.out) hcx hl)
  clear hrx hcx hry hcy hl
  obtain ⟨r, hr⟩ : ∃ r, r = lexC y.f1 x.f1 := ⟨_, rfl⟩
  rw [← hr] at HC ⊢
  clear hr
  go_enter Try.func91, Try.ntmps91
  go_wp2_with (go_at_call 80; refine HC.out.mono ?_; rintro e w' ⟨rfl, ⟨n, rfl⟩⟩)
  go_ret
  exact ⟨rfl, n, _, by rw [Go.Sort.alloc_eq_grow, Go.Sort.alloc_eq_grow, Go.Sort.grow_grow, drewN_grow]⟩
theorem heap_putRowK {α : Type} [Inhabited α] (enc : α → List Value) (k : Nat) (w : World) (blk off : Nat) (d : Array α) (j : Nat) (h : j ≠ blk) : (Go.Sort.putRowK enc k w blk off d).heap[j]? = w.heap[j]? := by
  unfold Go.Sort.putRowK Go.Sort.putRow Go.Sort.mapBlock
  simp only [Array.getElem?_modify]
  rw [if_neg (Ne.symm h)]
theorem heap_grow_old (w : World) (os : Array Obj) (j : Nat) (h : j < w.heap.size) : (Go.Sort.grow w os).heap[j]? = w.heap[j]? := by
  simp only [Go.Sort.grow, Array.getElem?_append, h, if_true]
theorem heap_sort {α : Type} [Inhabited α] (enc : α → List Value) (k : Nat) (w : World) (blk off m : Nat) (d : Array α) (os : Array Obj) (j : Nat) (h : j ≠ blk) (hj : j < w.heap.size) :
    (sortWorldK enc k w blk off m d os).heap[j]? = w.heap[j]? := by
  unfold sortWorldK
  rw [heap_grow_old _ _ _ (by rw [Go.Sort.size_putRowK]; exact hj), heap_putRowK _ _ _ _ _ _ _ h]
  rfl
theorem grown_sort {α : Type} [Inhabited α] (enc : α → List Value) (k : Nat) (w : World) (blk off m : Nat) (d : Array α) (os : Array Obj) : w.grownBy (sortWorldK enc k w blk off m d os) (some blk) :=
  ⟨rfl, rfl, rfl, by unfold sortWorldK; rw [Go.Sort.size_grow, Go.Sort.size_putRowK]; exact Nat.le_add_right _ _, fun i hi hne => heap_sort enc k w blk off m d os i (fun e => hne (by rw [e])) hi⟩
theorem agg60 : ∀ w, (isAgg (Try.sortMono_ren.t 24)).run Try.prog w = .ok true w := Try.isAgg60
theorem size60 : ∀ w, (Go.sizeOf (Try.sortMono_ren.t 24)).run Try.prog w = .ok 2 w := Try.sizeOf60
theorem enters91 : ∀ (args : Array Value) (w : World), (callFunc 91 args).run Try.prog w = .ok (.enter 91 args) w := enters_of Try.func91 (by kernel_rfl) rfl
theorem cell_of_heap {w w' : World} {a : Addr} (h : w'.heap[a.block]? = w.heap[a.block]?) : w'.cell? a = w.cell? a := by simp [World.cell?, h]
def SortPost (l : List S60) (w : World) (v : Value) (ok : Nat → Prop) (e : Ending) (w' : World) : Prop :=
  e = .returned (.tuple #[]) ∧ ∃ l', l'.Perm l ∧ SortedM l' ∧ Kd.V k60 60 w' w.heap.size (fun k => ok k ∨ w.heap.size ≤ k) v l' ∧ w.grownBy w' v.ownBlock
set_option maxHeartbeats 2000000 in
theorem sort_c (l : List S60) (v : Value) (w : World) (base : Nat) (ok : Nat → Prop) (hN : Kd.N k60 60 w base ok v l) (hl : l.length ≤ 1000000) (h8 : ∀ x ∈ l, x.f1.length ≤ 1000) (hd : nodupK (pm l)) :
    Calls Try.prog 90 #[v, .func (.func 91) #[] #[]] w (SortPost l w v ok) := by
  by_cases h0 : l.length = 0
  · have : l = [] := List.length_eq_zero_iff.1 h0
    subst this
    obtain ⟨A, c, rfl⟩ := Kd.N_slice hN
    refine Calls.mono (AnyF.slices_SortFunc_none (P := Try.prog) Try.sortMono A c (.func (.func 91) #[] #[]) w) ?_
    rintro e w' ⟨rfl, rfl⟩
    have hf := Kd.N_F hN
    exact ⟨rfl, [], List.Perm.refl _, by simp [SortedM], ⟨A, c, rfl, Nat.zero_le _, Kd.F_mono hf (fun k hk => .inl hk)⟩, ⟨rfl, rfl, rfl, Nat.le_refl _, fun _ _ _ => rfl⟩⟩
  obtain ⟨g, cap, rfl, hg1, hg2, cells, hcells⟩ := Kd.N_form hN (by omega)
  have hok : ok g := hN.1 g (by simp [Value.ownBlock])
  have hcap := (Kd.N_reads' hN).2.1
  haveI : Inhabited (Fin l.length) := ⟨⟨0, by omega⟩⟩
  have hel : ∀ i : Fin l.length, ∃ A c, l[i].f1.length ≤ c ∧ Kd.F (Kd.int .i64) w (fun k => ok k ∧ k ≠ g) A l[i].f1.length l[i].f1 ∧
      w.cell? ⟨g, i.val * 2, none⟩ = some (.int .i64 l[i].f0) ∧ w.cell? ⟨g, i.val * 2 + 1, none⟩ = some (.slice A l[i].f1.length c) ∧ ∀ j, w.frozen? ⟨g, i.val * 2 + j, none⟩ = false := by
    intro i
    obtain ⟨c, hcl, hFK, hcc, hfr⟩ := Kd.N_elem hN z60 (i.val : Int) (by omega) (by have := i.2; omega)
    rw [Int.toNat_natCast] at hFK hcc hfr
    have ei : l.getD i.val z60 = l[i] := by simp [List.getD_eq_getElem?_getD]
    rw [ei] at hFK
    obtain ⟨A1, c1, ec, h1, h2⟩ := k60_openF hFK
    have h3 := hcc 0 (.int .i64 l[i].f0) (by rw [ec]; rfl)
    have h4 := hcc 1 (.slice A1 l[i].f1.length c1) (by rw [ec]; rfl)
    exact ⟨A1, c1, h1, h2, h3, h4, hfr⟩
  let cA : Fin l.length → Option Addr := fun i => (hel i).choose
  let cC : Fin l.length → Nat := fun i => (hel i).choose_spec.choose
  have hsp : ∀ i : Fin l.length, l[i].f1.length ≤ cC i ∧ Kd.F (Kd.int .i64) w (fun k => ok k ∧ k ≠ g) (cA i) l[i].f1.length l[i].f1 ∧
      w.cell? ⟨g, i.val * 2, none⟩ = some (.int .i64 l[i].f0) ∧ w.cell? ⟨g, i.val * 2 + 1, none⟩ = some (.slice (cA i) l[i].f1.length (cC i)) ∧ ∀ j, w.frozen? ⟨g, i.val * 2 + j, none⟩ = false := fun i => (hel i).choose_spec.choose_spec
  generalize cA = cA at hsp
  generalize cC = cC at hsp
  let enc : Fin l.length → List Value := fun i => [.int .i64 l[i].f0, .slice (cA i) l[i].f1.length (cC i)]
  let d : Array (Fin l.length) := Array.ofFn (fun i : Fin l.length => i)
  have hds : d.size = l.length := by simp [d]
  have hdj : ∀ (j : Nat) (hj : j < l.length), d[j]! = ⟨j, hj⟩ := fun j hj => by rw [getElem!_pos d j (by rw [hds]; exact hj)]; simp [d]
  have hH : Go.Sort.HoldsK enc 2 w g 0 d := by
    intro t ht
    have ht2 : t < l.length * 2 := by have := ht; rw [Go.Sort.size_flatK, hds] at this; exact this
    have hi : t / 2 < l.length := by omega
    rw [Go.Sort.get_flatK enc 2 d t (by rw [hds]; exact ht2), hdj (t / 2) hi, Nat.zero_add]
    have hs := hsp ⟨t / 2, hi⟩
    have hfr := hs.2.2.2.2 (t % 2)
    have et : t / 2 * 2 + t % 2 = t := by omega
    rw [show (⟨t / 2, hi⟩ : Fin l.length).val = t / 2 from rfl, et] at hfr
    refine ⟨?_, hfr⟩
    rcases Nat.mod_two_eq_zero_or_one t with hm | hm
    · rw [hm]
      have e : t = t / 2 * 2 := by omega
      have h3 : w.cell? ⟨g, t / 2 * 2, none⟩ = some (.int .i64 l[(⟨t / 2, hi⟩ : Fin l.length)].f0) := hs.2.2.1
      exact (congrArg (fun q => w.cell? ⟨g, q, none⟩) e).trans h3
    · rw [hm]
      have e : t = t / 2 * 2 + 1 := by omega
      have h3 : w.cell? ⟨g, t / 2 * 2 + 1, none⟩ = some (.slice (cA ⟨t / 2, hi⟩) l[(⟨t / 2, hi⟩ : Fin l.length)].f1.length (cC ⟨t / 2, hi⟩)) := hs.2.2.2.1
      exact (congrArg (fun q => w.cell? ⟨g, q, none⟩) e).trans h3
  let cf : Fin l.length → Fin l.length → Int := fun x y => lexC l[y].f1 l[x].f1
  have hlt : ∀ x y, Go.Proofs.ltOf cf x y = decide (lexC l[x].f1 l[y].f1 > 0) := fun x y => by
    unfold Go.Proofs.ltOf
    rw [decide_eq_decide]
    exact (lexC_anti _ _).symm
  have hO : Go.Sort.SWO (Go.Proofs.ltOf cf) := {
    irrefl := fun x => by rw [hlt, lexC_self]; rfl
    trans := fun x y z h1 h2 => by
      rw [hlt, decide_eq_true_eq] at *
      exact lexC_trans h1 h2
    ntrans := fun x y z h1 h2 => by
      rw [hlt, decide_eq_false_iff_not] at *
      intro h3
      by_cases e : l[x].f1 = l[y].f1
      · rw [e] at h3; exact h2 h3
      · exact h2 (lexC_trans (lexC_tri h1 e) h3) }
  have hcmp : Go.Proofs.CmpLays Try.prog 91 #[] enc 2 cf g 0 d.size w := by
    intro m os dk hdk x y
    have hbl : ∀ k, (ok k ∧ k ≠ g) → k < w.heap.size → (sortWorldK enc 2 w g 0 m dk os).heap[k]? = w.heap[k]? := fun k hk hlt => heap_sort enc 2 w g 0 m dk os k hk.2 hlt
    have hx := hsp x
    have hy := hsp y
    refine (cmp91_c l[x] l[y] (cA x) (cA y) (cC x) (cC y) _ (Kd.F_now (Kd.F_step hx.2.1 hbl)) hx.1 (Kd.F_now (Kd.F_step hy.2.1 hbl)) hy.1 (h8 _ (List.getElem_mem _))).mono ?_
    rintro e w' ⟨rfl, q, os', rfl⟩
    exact ⟨rfl, q, os', rfl⟩
  have hsort := AnyQ.slices_SortFunc (P := Try.prog) Try.sortMono 2 agg60 size60 enc (fun _ => rfl) (fun x v hv => by simp [enc] at hv; rcases hv with rfl | rfl <;> rfl) cf hO 91 #[] g 0 cap d w enters91 hcmp hH hg2 (by rw [hds]; omega)
  rw [hds] at hsort
  refine Calls.mono hsort ?_
  rintro e w' ⟨rfl, d', n', os, hp, hs, rfl⟩
  have hd's : d'.size = l.length := by have := hp.1; rw [hds] at this; exact this
  have hperm : (d'.toList.map (fun i => l[i])).Perm l := by
    have h1 : d'.toList.Perm d.toList := by
      have := hp.2.2
      have e1 : d'.extract 0 l.length = d' := by
        apply Array.ext
        · simp; omega
        · intro j h1 h2; simp
      have e2 : d.extract 0 l.length = d := by
        apply Array.ext
        · simp; omega
        · intro j h1 h2; simp
      rw [e1, e2] at this
      exact this
    have h2 := h1.map (fun i : Fin l.length => l[i])
    have h3 : d.toList.map (fun i : Fin l.length => l[i]) = l := by
      apply List.ext_getElem
      · simp [d]
      · intro j h1 h2; simp [d]
    rw [h3] at h2
    exact h2
  have hnd : nodupK (pm (d'.toList.map (fun i => l[i]))) := by
    have h1 : (pm (d'.toList.map (fun i => l[i]))).Perm (pm l) := hperm.map _
    exact (h1.pairwise_iff (fun h e => h e.symm)).2 hd
  have hlen : (d'.toList.map (fun i => l[i])).length = l.length := by simp [hd's]
  refine ⟨rfl, d'.toList.map (fun i => l[i]), hperm, ?_, ?_, ?_⟩
  · unfold SortedM
    rw [List.pairwise_map]
    unfold nodupK pm at hnd
    rw [List.pairwise_map, List.pairwise_map] at hnd
    rw [List.pairwise_iff_getElem] at hnd ⊢
    intro i j hi hj hij
    have hi2 : i < d'.size := by simpa using hi
    have hj2 : j < d'.size := by simpa using hj
    have h1 := hs i j (Nat.zero_le _) hij (by omega)
    rw [hlt, decide_eq_false_iff_not, getElem!_pos d' i hi2, getElem!_pos d' j hj2] at h1
    have h2 := hnd i j hi hj hij
    rw [Array.getElem_toList, Array.getElem_toList] at h2 ⊢
    exact lexC_tri h1 (fun e => h2 e.symm)
  · have hok' : ok g := hok
    refine ⟨some ⟨g, 0, none⟩, cap, by rw [hlen], by rw [hlen]; exact hcap, ?_⟩
    rw [hlen]
    intro W' hW
    refine ⟨hlen, by omega, fun _ => ⟨⟨g, 0, none⟩, rfl, fun j p hj => ?_⟩⟩
    have hj2 : j < d'.size := by
      have := (List.getElem?_eq_some_iff.1 hj).1
      rw [hlen] at this; omega
    have hp2 : p = l[d'[j]] := by
      have := (List.getElem?_eq_some_iff.1 hj).2
      rw [List.getElem_map, Array.getElem_toList] at this
      exact this.symm
    have hx := hsp d'[j]
    have hHw := Go.Proofs.holdsK_sortWorldK_c enc 2 w g 0 d d' n' os hH hg2 (by rw [hd's, hds])
    have hgs : g < (sortWorldK enc 2 w g 0 n' d' os).heap.size := by have := (grown_sort enc 2 w g 0 n' d' os).size; omega
    have hgW := hW g (.inl hok') hgs
    refine ⟨enc d'[j], rfl, ?_, fun i u hu => ?_⟩
    · subst hp2
      refine k60_mk W' l[d'[j]] hx.1 ?_
      refine hx.2.1 W' (fun k hk hlt => ?_)
      have hks : k < (sortWorldK enc 2 w g 0 n' d' os).heap.size := by have := (grown_sort enc 2 w g 0 n' d' os).size; omega
      rw [hW k (.inl hk.1) hks]
      exact heap_sort enc 2 w g 0 n' d' os k hk.2 hlt
    · have hi : i < 2 := by have := (List.getElem?_eq_some_iff.1 hu).1; simpa [enc] using this
      have hc := (Go.Sort.HoldsK.cell (enc := enc) (k := 2) hHw (i := j) (c := i) hj2 hi).1
      rw [getElem!_pos d' j hj2] at hc
      rw [add_at, cell_of_heap (w := sortWorldK enc 2 w g 0 n' d' os) hgW]
      show (sortWorldK enc 2 w g 0 n' d' os).cell? ⟨g, 0 + (j * 2 + i), none⟩ = some u
      rw [show (0 + (j * 2 + i)) = 0 + j * 2 + i by omega, hc]
      obtain ⟨h1, h2⟩ := List.getElem?_eq_some_iff.1 hu
      rw [getElem!_pos (enc d'[j]) i h1, h2]
  · have : (Value.slice (some ⟨g, 0, none⟩) l.length cap).ownBlock = some g := by simp [Value.ownBlock]
    rw [this]
    exact grown_sort enc 2 w g 0 n' d' os
end Go.Proofs.Ythkclagcbjnckaa.Pa

namespace Go.Proofs.Ythkclagcbjnckaa.Pa
open Go.RowKit Go.Proofs.RawMap Go.Proofs.YthkclagcbjnckaaW.PrintWords Go.Proofs.YthkclagcbjnckaaW.PrintLast Go.Proofs.YthkclagcbjnckaaW.PrintMore
set_option linter.unusedVariables false
set_option linter.unusedSimpArgs false
theorem C_box (W : World) (g : Nat) (xs : List Int) (t : TypeId) (fr : Nat × Nat) (hl : xs.length ≤ 1000) (hW : W.heap[g]? = some (.cells (xs.map (Value.int .i64)).toArray t fr)) : (Kd.int .i64).C W (some ⟨g, 0, none⟩) xs.length xs := by
  refine ⟨rfl, by omega, fun _ => ⟨_, rfl, fun j p hj => ⟨[.int .i64 p], rfl, rfl, fun i u hu => ?_⟩⟩⟩
  have hi : i = 0 := by have := (List.getElem?_eq_some_iff.1 hu).1; simp at this; exact this
  subst hi
  simp only [List.getElem?_cons_zero, Option.some.injEq] at hu
  subst hu
  rw [add_at]
  simp only [World.cell?, hW]
  show ((xs.map (Value.int .i64)).toArray)[0 + (j * 1 + 0)]? = some (Value.int .i64 p)
  rw [show 0 + (j * 1 + 0) = j by omega]
  simp [hj]
def ListedPost (p : Po) (w : World) (e : Ending) (w' : World) : Prop :=
  ∃ v l, e = .returned v ∧ SortedM l ∧ (pm l).Perm p ∧ Kd.V k60 60 w' w.heap.size (fun k => w.heap.size ≤ k) v l ∧ Below w.heap.size w w'
set_option maxRecDepth 100000 in
set_option maxHeartbeats 4000000 in
theorem listed_c (b : Nat) (p : Po) (w : World) (h : PIs w b p) (g : NF p) : Calls Try.prog 67 #[.map (some b)] w (ListedPost p w) := by
  have ga : ∀ (W : World) (o : Obj), W.grownBy (W.alloc o) none := fun W o => World.grownBy_alloc W o none
  have hnd := h.nodup
  have HLT := Aside0.mk h.lt
  obtain ⟨w0, hrun, hra, hgr, hsz⟩ := MapIs.range (P := Try.prog) h Try.underlying63
  have hb0 : Below w.heap.size w w0 := (Below.refl _ _).grown hgr (Nat.le_refl _) (fun k hk => by cases hk)
  have HA := Aside0.mk hra
  have HB := Aside0.mk hb0
  have GA := Aside0.mk ga
  have HND := Aside0.mk hnd
  have HG := Aside0.mk g
  have HZ := Aside0.mk (show w.heap.size < w0.heap.size by omega)
  clear h hra hgr hsz hb0 ga hnd g
  go_enter Try.func67, Try.ntmps67
  go_wp2
  go_loopg [3] p.length (fun kq v3 w' => ∃ (v : Value) (left : Po) (l : List S60), v3 = v ∧ left.length = kq ∧ (pm l ++ left).Perm p ∧ Ranges w' VK b w.heap.size (p.map enc) (left.map enc) ∧ Kd.N k60 60 w' w.heap.size (fun k => w.heap.size < k) v l ∧ Below w.heap.size w w' ∧ w.heap.size < w'.heap.size)
  case atStart => exact ⟨_, p, [], rfl, rfl, List.Perm.refl _, HA.out, Kd.N_nil _ _ _ _ _, HB.out, HZ.out⟩
  case round =>
    obtain ⟨v3, left, l, hv3, rfl, hpm, HR, HN, HB, hsz⟩ := hrel
    have hv3 := hv3.symm
    subst hv3
    have HPM := Aside0.mk hpm
    have HR := Aside0.mk HR
    have HN := Aside0.mk HN
    have HB := Aside0.mk HB
    have HS := Aside0.mk hsz
    clear hpm hsz
    rcases HR.out.next (P := Try.prog) 0 with ⟨h0, hrun2⟩ | ⟨x1, key, v, x2, w1, hle, hmem, hVk, hrun2, hrng, hg1, hs1, hen⟩
    · have hl0 : left = [] := by cases left with | nil => rfl | cons a r => cases h0
      subst hl0
      clear h0
      have hpl : (pm l).Perm p := by have := HPM.out; rwa [List.append_nil] at this
      have hll : l.length ≤ 200 := by rw [← pm_length, hpl.length_eq]; exact HG.out.len
      have HPL := Aside0.mk hpl
      have HC := Aside0.mk (sort_c l v3 _ w.heap.size (fun k => w.heap.size < k) HN.out (by omega) (fun x hx => by have h8 : x.f1.length = 8 := (HG.out.good.ge _ (hpl.mem_iff.1 (List.mem_map.2 ⟨x, hx, rfl⟩))).1; omega) ((hpl.pairwise_iff (fun h e => h e.symm)).2 HND.out))
      clear hpl hll
      go_wp2_with fail
      refine HC.out.mono ?_
      rintro e w2 ⟨rfl, l', hl1, hl2, hV, hgw⟩
      have HL1 := Aside0.mk hl1
      have HL2 := Aside0.mk hl2
      have HV := Aside0.mk hV
      have HGW := Aside0.mk hgw
      clear hl1 hl2 hV hgw
      go_wp2
      go_ret
      exact ⟨v3, l', rfl, HL2.out, (HL1.out.map pairOf).trans HPL.out, Kd.V_mono HV.out (fun k hk => by have := HB.out.size; omega), HB.out.grown HGW.out HB.out.size (fun k hk => Kd.N_base HN.out k hk)⟩
    · obtain ⟨y1, m, y2, rfl, rfl, he, rfl⟩ := split_map hle
      have hmem0 : m ∈ p := mem_enc (by rw [he]; exact hmem)
      obtain ⟨mx, mc⟩ := m
      obtain ⟨a0, a1, a2, a3, a4, a5, a6, a7, rfl⟩ : ∃ a0 a1 a2 a3 a4 a5 a6 a7, mx = [a0, a1, a2, a3, a4, a5, a6, a7] := eight (HG.out.good.ge _ hmem0).1
      injection he with hk1 hv1
      subst hk1
      subst hv1
      have e0 : keyV [a0, a1, a2, a3, a4, a5, a6, a7] = .agg #[.int .i64 a0, .int .i64 a1, .int .i64 a2, .int .i64 a3, .int .i64 a4, .int .i64 a5, .int .i64 a6, .int .i64 a7] := rfl
      rw [e0] at hrun2 hen
      have hll : l.length ≤ 200 := by
        have h1 := HPM.out.length_eq
        have h2 := HG.out.len
        rw [List.length_append, pm_length] at h1
        omega
      have hs2 := HS.out
      have hlt1 : w.heap.size < w1.heap.size := by omega
      have hb1 : Below w.heap.size w w1 := HB.out.grown hg1 HB.out.size (fun k hk => by injection hk with hk; omega)
      have hN1 := Kd.N_grown HN.out hg1 (fun k hk e => by injection e with e; omega)
      have HLL := Aside0.mk hll
      have H1 := Aside0.mk hlt1
      have HB1 := Aside0.mk hb1
      have HN1 := Aside0.mk hN1
      have HRN := Aside0.mk hrng
      have HC := Aside0.mk (cloneI_c (some ⟨w1.heap.size, 0, none⟩) 8 [a0, a1, a2, a3, a4, a5, a6, a7] (w1.alloc (.cells #[.int .i64 a0, .int .i64 a1, .int .i64 a2, .int .i64 a3, .int .i64 a4, .int .i64 a5, .int .i64 a6, .int .i64 a7] 76)) (C_box _ _ _ 76 (0, 0) (by simp) (heap_alloc_new _ _)) (by simp))
      clear hle hmem hVk hrng hg1 e0 hmem0 hs1 hll hs2 hlt1 hb1 hN1
      go_wp2_with fail
      refine HC.out.mono ?_
      rintro e w2 ⟨v2, rfl, hR, hb2⟩
      obtain ⟨A2, c2, rfl⟩ := Kd.R_slice hR
      have hsz2 : w1.heap.size + 1 ≤ w2.heap.size := by have := hb2.size; simpa using this
      have hb12 : Below w1.heap.size w1 w2 := below_then (below_alloc (Below.refl _ _) _) (by simp) hb2
      have hN2 := Kd.N_below HN1.out hb12
      have hra2 := (HRN.out.kept (GA.out w1 (.cells #[.int .i64 a0, .int .i64 a1, .int .i64 a2, .int .i64 a3, .int .i64 a4, .int .i64 a5, .int .i64 a6, .int .i64 a7] 76)) (by simp) (by simp)).kept (grown_of_below hb2 none) (by simp) (by simp)
      have hbw : Below w.heap.size w w2 := below_then HB1.out HB1.out.size hb12
      have hR' := Kd.R_mono (ok' := fun k => w.heap.size < k ∧ some k ≠ v3.ownBlock) (Kd.R_bound hR) (fun k hk => ⟨by have h1 := hk.2.1; have h2 := H1.out; rw [World.size_alloc] at h1; omega, fun e => by have h3 := Kd.N_lt HN1.out k e.symm; have h1 := hk.2.1; rw [World.size_alloc] at h1; omega⟩)
      have HR2 := Aside0.mk hR'
      have HN2 := Aside0.mk hN2
      have HRA := Aside0.mk hra2
      have HBW := Aside0.mk hbw
      have HS2 := Aside0.mk (show w.heap.size < w2.heap.size by have := H1.out; omega)
      clear hR hb2 hb12 hN2 hra2 hbw hsz2 hR'
      go_wp2_with ((with_reducible refine gate_dst (N := 19) rfl ?_); refine Kd.N_append k60 (w0 := w) w.heap.size rfl (.tmp 13) (.tmp 18) 22 60 (.agg #[(.int .i64 0), (.slice none 0 0)]) 32 rfl Try.underlying22 info60 rfl (by decide) (by omega) v3 l (⟨mc, [a0, a1, a2, a3, a4, a5, a6, a7]⟩ : S60) [.int .i64 mc, .slice A2 [a0, a1, a2, a3, a4, a5, a6, a7].length c2] (fun k => w.heap.size < k) (fun k => w.heap.size < k ∧ some k ≠ v3.ownBlock) rfl rfl ?aP (fun _ hk => hk) ?aF ?aO ?aB ?aS ?aL ?_; (case aP => exact k60_mkF _ _ _ (Kd.R_reads' HR2.out).2.1 (Kd.R_F HR2.out)); (case aF => exact (fun k hk => Nat.lt_of_lt_of_le HS2.out hk)); (case aO => exact HN2.out); (case aB => exact HBW.out); (case aS => exact HBW.out.size); (case aL => have := HLL.out; omega); intro v4 w4 ho hb hg hat; have HO := Aside0.mk ho; have HB4 := Aside0.mk hb; have HG4 := Aside0.mk hg; clear ho hb hg hat)
      go_roundg (y1 ++ y2).length
      case rel =>
        refine ⟨v4, y1 ++ y2, l ++ [⟨mc, [a0, a1, a2, a3, a4, a5, a6, a7]⟩], rfl, rfl, ?_, ?_, HO.out, HB4.out, ?_⟩
        · refine List.Perm.trans ?_ HPM.out
          rw [pm_append, List.append_assoc]
          exact List.Perm.append_left _ (List.perm_middle (l₁ := y1) (l₂ := y2)).symm
        · rw [List.map_append]
          exact HRA.out.kept HG4.out (fun e => by have h1 := HN2.out.1 b e.symm; have h2 := HLT.out; omega) (fun e => by have h1 := HN2.out.1 _ e.symm; omega)
        · have h1 := HG4.out.size; have h2 := HS2.out; omega
      case measure => simp
end Go.Proofs.Ythkclagcbjnckaa.Pa


namespace Go.Proofs.Ythkclagcbjnckaa.Pa
open Go.RowKit Go.Proofs.YthkclagcbjnckaaW.PrintWords Go.Proofs.YthkclagcbjnckaaW.PrintLast Go.Proofs.YthkclagcbjnckaaW.PrintMore
attribute [local go_sem] max2_int min2_int max_two min_two max_three min_three max_four min_four
set_option linter.unusedVariables false
set_option linter.unusedSimpArgs false
def tenetref24_Add.j0 : Nat → List (S60) → List (S60) → Bool → Option ((List (S60)) × Int)
 | 0, _, _, _ => none
 | k + 1, x0, x1, x15 => if x15 = true then (some (([] : List (S60)), 4)) else ((tenetref24_add.f k x0 x1).bind fun bt604 => (if bt604.2 = true then ((tenetref24_copied.f k bt604.1).bind fun t608 => (some (t608, 0))) else (some (([] : List (S60)), 2))))
def tenetref24_Add.f (k : Nat) (l0 : List (S60)) (l1 : List (S60)) : Option ((List (S60)) × Int) := (tenetref24_Is.f k l0).bind fun t602 => (if t602 = true then ((tenetref24_Is.f k l1).bind fun t603 => (tenetref24_Add.j0 k l0 l1 (!t603))) else (tenetref24_Add.j0 k l0 l1 true))
set_option maxHeartbeats 8000000 in
set_option maxRecDepth 100000 in
theorem tenetref24_Add.calls (k : Nat) (A0 : Option Addr) (c0 : Nat) (l0 : List (S60)) (A1 : Option Addr) (c1 : Nat) (l1 : List (S60)) (r1 : List (S60)) (r2 : Int) (w : World) (hr0 : Kd.C k60 w A0 l0.length l0) (hc0 : l0.length ≤ c0) (hr1 : Kd.C k60 w A1 l1.length l1) (hc1 : l1.length ≤ c1) (h : tenetref24_Add.f k l0 l1 = some (r1, r2)) :
  Calls Try.prog 33 #[.slice A0 l0.length c0, .slice A1 l1.length c1] w fun e w' => ∃ v0_ : Value, e = .returned (.tuple #[v0_, .int .i64 r2]) ∧ Kd.S k60 60 w' w.heap.size (fun _ => True) v0_ r1 ∧ Below w.heap.size w w' := by
 have HR0 := Aside0.mk hr0
 have HC0 := Aside0.mk hc0
 clear hr0 hc0
 have HR1 := Aside0.mk hr1
 have HC1 := Aside0.mk hc1
 clear hr1 hc1
 have HB := Aside0.mk (Below.refl w.heap.size w)
 have H : ((tenetref24_Is.f k l0).bind fun t602 => (if t602 = true then ((tenetref24_Is.f k l1).bind fun t603 => (tenetref24_Add.j0 k l0 l1 (!t603))) else (tenetref24_Add.j0 k l0 l1 true))) = some (r1, r2) := h
 clear h
 have HC3 := Aside0.mk H
 clear H
 go_enter Try.func33, Try.ntmps33
 go_upto_region 1 with (fail)
 go_cut [15] (fun v15 wc => ∃ (kq : Nat) (x15_2 : Bool), v15 = .bool x15_2 ∧ Aside0 (tenetref24_Add.j0 kq l0 l1 x15_2 = some (r1, r2)) ∧ Aside0 (kq ≤ k) ∧ Aside0 (Below w.heap.size w wc))
 case first =>
  have H := HC3.out
  clear HC3
  replace H := Option.bind_eq_some_iff.mp H
  obtain ⟨t602, A40, H⟩ := H
  replace H : (if t602 = true then ((tenetref24_Is.f k l1).bind fun t603 => (tenetref24_Add.j0 k l0 l1 (!t603))) else (tenetref24_Add.j0 k l0 l1 true)) = some (r1, r2) := H
  have A4 := Aside0.mk A40
  clear A40
  by_cases c5 : t602 = true
  ·subst c5
   have H1 : ((tenetref24_Is.f k l1).bind fun t603 => (tenetref24_Add.j0 k l0 l1 (!t603))) = some (r1, r2) := by rw [if_pos rfl] at H; exact H
   clear H
   have H := H1
   clear H1
   replace H := Option.bind_eq_some_iff.mp H
   obtain ⟨t603, A60, H⟩ := H
   replace H : (tenetref24_Add.j0 k l0 l1 (!t603)) = some (r1, r2) := H
   have A6 := Aside0.mk A60
   clear A60
   have H' := Aside0.mk H
   clear H
   go_wp2_with (first | ((with_reducible refine gate_callee (f := 49) rfl ?_); refine goesL_ (some 9) rfl rfl Try.func49 (by kernel_rfl) rfl #[.slice A0 l0.length c0] rfl (by (try simp only [List.map_toArray, List.map_cons, List.map_nil]); first | done | rfl | (simp only [List.length_drop, List.length_take]; rfl)) ?_; (with_reducible refine (tenetref24_Is.calls k _ _ l0 true _ ?side1 ?side2 A4.out).mono ?_); (case side1 => repeat (first | exact (Kd.C_below HR0.out HB.out) | (with_reducible refine Kd.C_alloc ?_ _) | (with_reducible refine Kd.C_drewN ?_ _) | (with_reducible refine Kd.C_drew ?_))); (case side2 => exact HC0.out); rintro e w' ⟨rfl, ⟨nd, rfl⟩⟩; refine ⟨_, rfl, ?_⟩) | (go_at_call 49; (with_reducible refine (tenetref24_Is.calls k _ _ l1 t603 _ ?side1 ?side2 A6.out).mono ?_); (case side1 => repeat (first | exact (Kd.C_below HR1.out (by repeat (first | (with_reducible first | exact HB.out | apply below_alloc | apply pw_below_drewN | apply below_drew1) | exact HB.out))) | (with_reducible refine Kd.C_alloc ?_ _) | (with_reducible refine Kd.C_drewN ?_ _) | (with_reducible refine Kd.C_drew ?_))); (case side2 => exact HC1.out); rintro e w' ⟨rfl, ⟨nd, rfl⟩⟩))
   go_meet
   case rel => exact ⟨_, (!t603), (by first | rfl | (simp; done) | (simp [*]; done)), H', ⟨by first | omega | exact Nat.le_refl _⟩, ⟨by repeat (first | (with_reducible first | exact HB.out | apply below_alloc | apply pw_below_drewN | apply below_drew1) | exact HB.out)⟩⟩
  ·replace c5 := Bool.eq_false_iff.mpr c5
   subst c5
   have H1 : (tenetref24_Add.j0 k l0 l1 true) = some (r1, r2) := by rw [if_neg (show ¬ (false = true) by decide)] at H; exact H
   clear H
   have H := H1
   clear H1
   have H' := Aside0.mk H
   clear H
   go_wp2_with (first | ((with_reducible refine gate_callee (f := 49) rfl ?_); refine goesL_ (some 9) rfl rfl Try.func49 (by kernel_rfl) rfl #[.slice A0 l0.length c0] rfl (by (try simp only [List.map_toArray, List.map_cons, List.map_nil]); first | done | rfl | (simp only [List.length_drop, List.length_take]; rfl)) ?_; (with_reducible refine (tenetref24_Is.calls k _ _ l0 false _ ?side1 ?side2 A4.out).mono ?_); (case side1 => repeat (first | exact (Kd.C_below HR0.out HB.out) | (with_reducible refine Kd.C_alloc ?_ _) | (with_reducible refine Kd.C_drewN ?_ _) | (with_reducible refine Kd.C_drew ?_))); (case side2 => exact HC0.out); rintro e w' ⟨rfl, ⟨nd, rfl⟩⟩; refine ⟨_, rfl, ?_⟩))
   go_meet
   case rel => exact ⟨_, (true), (by first | rfl | (simp; done) | (simp [*]; done)), H', ⟨by first | omega | exact Nat.le_refl _⟩, ⟨by repeat (first | (with_reducible first | exact HB.out | apply below_alloc | apply pw_below_drewN | apply below_drew1) | exact HB.out)⟩⟩
 case rest =>
  clear HC3
  try clear c1
  try clear p2
  try clear c3
  try clear c4
  try clear c5
  obtain ⟨kq, x15_2, rfl, HA, HJ2, HB⟩ := hcut
  cases kq with
  | zero => exact absurd HA.out (by simp [tenetref24_Add.j0])
  | succ kj2 =>
   have H := HA.out
   clear HA
   simp only [tenetref24_Add.j0] at H
   by_cases c7 : x15_2 = true
   ·subst c7
    have H1 : (some (([] : List (S60)), 4)) = some (r1, r2) := by rw [if_pos rfl] at H; exact H
    clear H
    have H := H1
    clear H1
    simp only [Option.some.injEq, Prod.mk.injEq] at H
    obtain ⟨rfl, rfl⟩ := H
    go_wp2
    go_ret2
    exact ⟨_, by first | rfl | (simp [errW_none, errW_some] <;> rfl) | (simp [*, errW_none, errW_some] <;> rfl), by first | exact Kd.S_nil _ _ _ _ _ | exact Kd.N_nil _ _ _ _ _ | exact Kd.V_nil _ _ _ _ _ | exact Kd.Q_nil _ _ _ _ _ | exact Kd.R_nil _ _ _ _ _, by repeat (first | (with_reducible first | exact HB.out | apply below_alloc | apply pw_below_drewN | apply below_drew1) | exact HB.out)⟩
   ·replace c7 := Bool.eq_false_iff.mpr c7
    subst c7
    have H1 : ((tenetref24_add.f kj2 l0 l1).bind fun bt604 => (if bt604.2 = true then ((tenetref24_copied.f kj2 bt604.1).bind fun t608 => (some (t608, 0))) else (some (([] : List (S60)), 2)))) = some (r1, r2) := by rw [if_neg (show ¬ (false = true) by decide)] at H; exact H
    clear H
    have H := H1
    clear H1
    replace H := Option.bind_eq_some_iff.mp H
    obtain ⟨⟨t604, t607⟩, A80, H⟩ := H
    replace H : (if t607 = true then ((tenetref24_copied.f kj2 t604).bind fun t608 => (some (t608, 0))) else (some (([] : List (S60)), 2))) = some (r1, r2) := H
    have A8 := Aside0.mk A80
    clear A80
    by_cases c9 : t607 = true
    ·subst c9
     have H1 : ((tenetref24_copied.f kj2 t604).bind fun t608 => (some (t608, 0))) = some (r1, r2) := by rw [if_pos rfl] at H; exact H
     clear H
     have H := H1
     clear H1
     replace H := Option.bind_eq_some_iff.mp H
     obtain ⟨t608, A100, H⟩ := H
     replace H : (some (t608, 0)) = some (r1, r2) := H
     have A10 := Aside0.mk A100
     clear A100
     simp only [Option.some.injEq, Prod.mk.injEq] at H
     obtain ⟨rfl, rfl⟩ := H
     go_wp2_with (first | ((with_reducible refine gate_callee (f := 74) rfl ?_); refine goesL_ (some 19) rfl rfl Try.func74 (by kernel_rfl) rfl #[.slice A0 l0.length c0, .slice A1 l1.length c1] rfl (by (try simp only [List.map_toArray, List.map_cons, List.map_nil]); first | done | rfl | (simp only [List.length_drop, List.length_take]; rfl)) ?_; (with_reducible refine (tenetref24_add.calls kj2 (fun k_ => k_ < w.heap.size) _ _ l0 (fun k_ => k_ < w.heap.size) _ _ l1 t604 true _ ?side1 ?side2 A8.out).mono ?_); (case side1 => exact Kd.V_mk HC0.out (Kd.F_below (Kd.C_F k60_heap HR0.out) (by repeat (first | (with_reducible first | exact HB.out | apply below_alloc | apply pw_below_drewN | apply below_drew1) | exact HB.out)))); (case side2 => exact Kd.V_mk HC1.out (Kd.F_below (Kd.C_F k60_heap HR1.out) (by repeat (first | (with_reducible first | exact HB.out | apply below_alloc | apply pw_below_drewN | apply below_drew1) | exact HB.out)))); rintro e w11 ⟨v605, rfl, ho0, hb⟩; refine ⟨_, rfl, ?_⟩; have n0_ := Aside0.mk (Kd.V_lower (Kd.V_mono (ok' := fun k_ => True) ho0 (fun k_ hk_ => trivial)) (below_size (by repeat (first | (with_reducible first | exact HB.out | apply below_alloc | apply pw_below_drewN | apply below_drew1) | exact HB.out)))); have n1_ := Aside0.mk (below_step (by repeat (first | (with_reducible first | exact HB.out | apply below_alloc | apply pw_below_drewN | apply below_drew1) | exact HB.out)) hb); clear HB; have HO606 := n0_; have HB := n1_; clear n0_ n1_; (try clear hb); (try clear hb2); (try clear hk); (try clear hi); (try clear ho0); obtain ⟨Ao12, co12, eo12⟩ := Kd.V_slice HO606.out; subst eo12) | ((with_reducible refine gate_callee (f := 68) rfl ?_); refine goesL_ (some 25) rfl rfl Try.func68 (by kernel_rfl) rfl #[.slice Ao12 t604.length co12] rfl (by (try simp only [List.map_toArray, List.map_cons, List.map_nil]); first | done | rfl | (simp only [List.length_drop, List.length_take]; rfl)) ?_; (with_reducible refine (tenetref24_copied.calls kj2 _ _ t604 t608 _ ?side1 ?side2 A10.out).mono ?_); (case side1 => repeat (first | exact (Kd.V_reads' HO606.out).2.2 | (with_reducible refine Kd.C_alloc ?_ _) | (with_reducible refine Kd.C_drewN ?_ _) | (with_reducible refine Kd.C_drew ?_))); (case side2 => exact (Kd.V_reads' HO606.out).2.1); rintro e w13 ⟨v609, rfl, ho0, hb⟩; refine ⟨_, rfl, ?_⟩; have n0_ := Aside0.mk (Kd.V_elder' (by (with_reducible repeat (first | apply Kd.V_alloc | apply Kd.V_drewN | apply Kd.V_drew)); exact HO606.out) (Kd.S_base ho0) hb); have n1_ := Aside0.mk (Kd.S_lower ho0 (below_size (by repeat (first | (with_reducible first | exact HB.out | apply below_alloc | apply pw_below_drewN | apply below_drew1) | exact HB.out)))); have n2_ := Aside0.mk (below_step (by repeat (first | (with_reducible first | exact HB.out | apply below_alloc | apply pw_below_drewN | apply below_drew1) | exact HB.out)) hb); clear HO606; clear HB; have HO606 := n0_; have HO610 := n1_; have HB := n2_; clear n0_ n1_ n2_; (try clear hb); (try clear hb2); (try clear hk); (try clear hi); (try clear ho0)))
     go_ret2
     exact ⟨_, by first | rfl | (simp [errW_none, errW_some] <;> rfl) | (simp [*, errW_none, errW_some] <;> rfl), by (with_reducible repeat (first | apply Kd.S_alloc | apply Kd.S_drewN | apply Kd.S_drew)); exact HO610.out, by repeat (first | (with_reducible first | exact HB.out | apply below_alloc | apply pw_below_drewN | apply below_drew1) | exact HB.out)⟩
    ·replace c9 := Bool.eq_false_iff.mpr c9
     subst c9
     have H1 : (some (([] : List (S60)), 2)) = some (r1, r2) := by rw [if_neg (show ¬ (false = true) by decide)] at H; exact H
     clear H
     have H := H1
     clear H1
     simp only [Option.some.injEq, Prod.mk.injEq] at H
     obtain ⟨rfl, rfl⟩ := H
     go_wp2_with (first | ((with_reducible refine gate_callee (f := 74) rfl ?_); refine goesL_ (some 19) rfl rfl Try.func74 (by kernel_rfl) rfl #[.slice A0 l0.length c0, .slice A1 l1.length c1] rfl (by (try simp only [List.map_toArray, List.map_cons, List.map_nil]); first | done | rfl | (simp only [List.length_drop, List.length_take]; rfl)) ?_; (with_reducible refine (tenetref24_add.calls kj2 (fun k_ => k_ < w.heap.size) _ _ l0 (fun k_ => k_ < w.heap.size) _ _ l1 t604 false _ ?side1 ?side2 A8.out).mono ?_); (case side1 => exact Kd.V_mk HC0.out (Kd.F_below (Kd.C_F k60_heap HR0.out) (by repeat (first | (with_reducible first | exact HB.out | apply below_alloc | apply pw_below_drewN | apply below_drew1) | exact HB.out)))); (case side2 => exact Kd.V_mk HC1.out (Kd.F_below (Kd.C_F k60_heap HR1.out) (by repeat (first | (with_reducible first | exact HB.out | apply below_alloc | apply pw_below_drewN | apply below_drew1) | exact HB.out)))); rintro e w14 ⟨v605, rfl, ho0, hb⟩; refine ⟨_, rfl, ?_⟩; have n0_ := Aside0.mk (Kd.V_lower (Kd.V_mono (ok' := fun k_ => True) ho0 (fun k_ hk_ => trivial)) (below_size (by repeat (first | (with_reducible first | exact HB.out | apply below_alloc | apply pw_below_drewN | apply below_drew1) | exact HB.out)))); have n1_ := Aside0.mk (below_step (by repeat (first | (with_reducible first | exact HB.out | apply below_alloc | apply pw_below_drewN | apply below_drew1) | exact HB.out)) hb); clear HB; have HO606 := n0_; have HB := n1_; clear n0_ n1_; (try clear hb); (try clear hb2); (try clear hk); (try clear hi); (try clear ho0)))
     go_ret2
     exact ⟨_, by first | rfl | (simp [errW_none, errW_some] <;> rfl) | (simp [*, errW_none, errW_some] <;> rfl), by first | exact Kd.S_nil _ _ _ _ _ | exact Kd.N_nil _ _ _ _ _ | exact Kd.V_nil _ _ _ _ _ | exact Kd.Q_nil _ _ _ _ _ | exact Kd.R_nil _ _ _ _ _, by repeat (first | (with_reducible first | exact HB.out | apply below_alloc | apply pw_below_drewN | apply below_drew1) | exact HB.out)⟩
end Go.Proofs.Ythkclagcbjnckaa.Pa


namespace Go.Proofs.Ythkclagcbjnckaa.Pa
open Go.RowKit Go.Proofs.YthkclagcbjnckaaW.PrintWords Go.Proofs.YthkclagcbjnckaaW.PrintLast Go.Proofs.YthkclagcbjnckaaW.PrintMore
attribute [local go_sem] max2_int min2_int max_two min_two max_three min_three max_four min_four
set_option linter.unusedVariables false
set_option linter.unusedSimpArgs false
def tenetref24_Mul.j0 : Nat → List (S60) → List (S60) → Bool → Option ((List (S60)) × Int)
 | 0, _, _, _ => none
 | k + 1, x0, x1, x15 => if x15 = true then (some (([] : List (S60)), 4)) else ((tenetref24_mul.f k x0 x1).bind fun bt613 => (if bt613.2 = true then ((tenetref24_copied.f k bt613.1).bind fun t617 => (some (t617, 0))) else (some (([] : List (S60)), 2))))
def tenetref24_Mul.f (k : Nat) (l0 : List (S60)) (l1 : List (S60)) : Option ((List (S60)) × Int) := (tenetref24_Is.f k l0).bind fun t611 => (if t611 = true then ((tenetref24_Is.f k l1).bind fun t612 => (tenetref24_Mul.j0 k l0 l1 (!t612))) else (tenetref24_Mul.j0 k l0 l1 true))
set_option maxHeartbeats 8000000 in
set_option maxRecDepth 100000 in
theorem tenetref24_Mul.calls (k : Nat) (A0 : Option Addr) (c0 : Nat) (l0 : List (S60)) (A1 : Option Addr) (c1 : Nat) (l1 : List (S60)) (r1 : List (S60)) (r2 : Int) (w : World) (hr0 : Kd.C k60 w A0 l0.length l0) (hc0 : l0.length ≤ c0) (hr1 : Kd.C k60 w A1 l1.length l1) (hc1 : l1.length ≤ c1) (h : tenetref24_Mul.f k l0 l1 = some (r1, r2)) :
  Calls Try.prog 35 #[.slice A0 l0.length c0, .slice A1 l1.length c1] w fun e w' => ∃ v0_ : Value, e = .returned (.tuple #[v0_, .int .i64 r2]) ∧ Kd.N k60 60 w' w.heap.size (fun k_ => (w.heap.size ≤ k_)) v0_ r1 ∧ Below w.heap.size w w' := by
 have HR0 := Aside0.mk hr0
 have HC0 := Aside0.mk hc0
 clear hr0 hc0
 have HR1 := Aside0.mk hr1
 have HC1 := Aside0.mk hc1
 clear hr1 hc1
 have HB := Aside0.mk (Below.refl w.heap.size w)
 have H : ((tenetref24_Is.f k l0).bind fun t611 => (if t611 = true then ((tenetref24_Is.f k l1).bind fun t612 => (tenetref24_Mul.j0 k l0 l1 (!t612))) else (tenetref24_Mul.j0 k l0 l1 true))) = some (r1, r2) := h
 clear h
 have HC3 := Aside0.mk H
 clear H
 go_enter Try.func35, Try.ntmps35
 go_upto_region 1 with (fail)
 go_cut [15] (fun v15 wc => ∃ (kq : Nat) (x15_2 : Bool), v15 = .bool x15_2 ∧ Aside0 (tenetref24_Mul.j0 kq l0 l1 x15_2 = some (r1, r2)) ∧ Aside0 (kq ≤ k) ∧ Aside0 (Below w.heap.size w wc))
 case first =>
  have H := HC3.out
  clear HC3
  replace H := Option.bind_eq_some_iff.mp H
  obtain ⟨t611, A40, H⟩ := H
  replace H : (if t611 = true then ((tenetref24_Is.f k l1).bind fun t612 => (tenetref24_Mul.j0 k l0 l1 (!t612))) else (tenetref24_Mul.j0 k l0 l1 true)) = some (r1, r2) := H
  have A4 := Aside0.mk A40
  clear A40
  by_cases c5 : t611 = true
  ·subst c5
   have H1 : ((tenetref24_Is.f k l1).bind fun t612 => (tenetref24_Mul.j0 k l0 l1 (!t612))) = some (r1, r2) := by rw [if_pos rfl] at H; exact H
   clear H
   have H := H1
   clear H1
   replace H := Option.bind_eq_some_iff.mp H
   obtain ⟨t612, A60, H⟩ := H
   replace H : (tenetref24_Mul.j0 k l0 l1 (!t612)) = some (r1, r2) := H
   have A6 := Aside0.mk A60
   clear A60
   have H' := Aside0.mk H
   clear H
   go_wp2_with (first | ((with_reducible refine gate_callee (f := 49) rfl ?_); refine goesL_ (some 9) rfl rfl Try.func49 (by kernel_rfl) rfl #[.slice A0 l0.length c0] rfl (by (try simp only [List.map_toArray, List.map_cons, List.map_nil]); first | done | rfl | (simp only [List.length_drop, List.length_take]; rfl)) ?_; (with_reducible refine (tenetref24_Is.calls k _ _ l0 true _ ?side1 ?side2 A4.out).mono ?_); (case side1 => repeat (first | exact (Kd.C_below HR0.out HB.out) | (with_reducible refine Kd.C_alloc ?_ _) | (with_reducible refine Kd.C_drewN ?_ _) | (with_reducible refine Kd.C_drew ?_))); (case side2 => exact HC0.out); rintro e w' ⟨rfl, ⟨nd, rfl⟩⟩; refine ⟨_, rfl, ?_⟩) | (go_at_call 49; (with_reducible refine (tenetref24_Is.calls k _ _ l1 t612 _ ?side1 ?side2 A6.out).mono ?_); (case side1 => repeat (first | exact (Kd.C_below HR1.out (by repeat (first | (with_reducible first | exact HB.out | apply below_alloc | apply pw_below_drewN | apply below_drew1) | exact HB.out))) | (with_reducible refine Kd.C_alloc ?_ _) | (with_reducible refine Kd.C_drewN ?_ _) | (with_reducible refine Kd.C_drew ?_))); (case side2 => exact HC1.out); rintro e w' ⟨rfl, ⟨nd, rfl⟩⟩))
   go_meet
   case rel => exact ⟨_, (!t612), (by first | rfl | (simp; done) | (simp [*]; done)), H', ⟨by first | omega | exact Nat.le_refl _⟩, ⟨by repeat (first | (with_reducible first | exact HB.out | apply below_alloc | apply pw_below_drewN | apply below_drew1) | exact HB.out)⟩⟩
  ·replace c5 := Bool.eq_false_iff.mpr c5
   subst c5
   have H1 : (tenetref24_Mul.j0 k l0 l1 true) = some (r1, r2) := by rw [if_neg (show ¬ (false = true) by decide)] at H; exact H
   clear H
   have H := H1
   clear H1
   have H' := Aside0.mk H
   clear H
   go_wp2_with (first | ((with_reducible refine gate_callee (f := 49) rfl ?_); refine goesL_ (some 9) rfl rfl Try.func49 (by kernel_rfl) rfl #[.slice A0 l0.length c0] rfl (by (try simp only [List.map_toArray, List.map_cons, List.map_nil]); first | done | rfl | (simp only [List.length_drop, List.length_take]; rfl)) ?_; (with_reducible refine (tenetref24_Is.calls k _ _ l0 false _ ?side1 ?side2 A4.out).mono ?_); (case side1 => repeat (first | exact (Kd.C_below HR0.out HB.out) | (with_reducible refine Kd.C_alloc ?_ _) | (with_reducible refine Kd.C_drewN ?_ _) | (with_reducible refine Kd.C_drew ?_))); (case side2 => exact HC0.out); rintro e w' ⟨rfl, ⟨nd, rfl⟩⟩; refine ⟨_, rfl, ?_⟩))
   go_meet
   case rel => exact ⟨_, (true), (by first | rfl | (simp; done) | (simp [*]; done)), H', ⟨by first | omega | exact Nat.le_refl _⟩, ⟨by repeat (first | (with_reducible first | exact HB.out | apply below_alloc | apply pw_below_drewN | apply below_drew1) | exact HB.out)⟩⟩
 case rest =>
  clear HC3
  try clear c1
  try clear p2
  try clear c3
  try clear c4
  try clear c5
  obtain ⟨kq, x15_2, rfl, HA, HJ2, HB⟩ := hcut
  cases kq with
  | zero => exact absurd HA.out (by simp [tenetref24_Mul.j0])
  | succ kj2 =>
   have H := HA.out
   clear HA
   simp only [tenetref24_Mul.j0] at H
   by_cases c7 : x15_2 = true
   ·subst c7
    have H1 : (some (([] : List (S60)), 4)) = some (r1, r2) := by rw [if_pos rfl] at H; exact H
    clear H
    have H := H1
    clear H1
    simp only [Option.some.injEq, Prod.mk.injEq] at H
    obtain ⟨rfl, rfl⟩ := H
    go_wp2
    go_ret2
    exact ⟨_, by first | rfl | (simp [errW_none, errW_some] <;> rfl) | (simp [*, errW_none, errW_some] <;> rfl), by first | exact Kd.S_nil _ _ _ _ _ | exact Kd.N_nil _ _ _ _ _ | exact Kd.V_nil _ _ _ _ _ | exact Kd.Q_nil _ _ _ _ _ | exact Kd.R_nil _ _ _ _ _, by repeat (first | (with_reducible first | exact HB.out | apply below_alloc | apply pw_below_drewN | apply below_drew1) | exact HB.out)⟩
   ·replace c7 := Bool.eq_false_iff.mpr c7
    subst c7
    have H1 : ((tenetref24_mul.f kj2 l0 l1).bind fun bt613 => (if bt613.2 = true then ((tenetref24_copied.f kj2 bt613.1).bind fun t617 => (some (t617, 0))) else (some (([] : List (S60)), 2)))) = some (r1, r2) := by rw [if_neg (show ¬ (false = true) by decide)] at H; exact H
    clear H
    have H := H1
    clear H1
    replace H := Option.bind_eq_some_iff.mp H
    obtain ⟨⟨t613, t616⟩, A80, H⟩ := H
    replace H : (if t616 = true then ((tenetref24_copied.f kj2 t613).bind fun t617 => (some (t617, 0))) else (some (([] : List (S60)), 2))) = some (r1, r2) := H
    have A8 := Aside0.mk A80
    clear A80
    by_cases c9 : t616 = true
    ·subst c9
     have H1 : ((tenetref24_copied.f kj2 t613).bind fun t617 => (some (t617, 0))) = some (r1, r2) := by rw [if_pos rfl] at H; exact H
     clear H
     have H := H1
     clear H1
     replace H := Option.bind_eq_some_iff.mp H
     obtain ⟨t617, A100, H⟩ := H
     replace H : (some (t617, 0)) = some (r1, r2) := H
     have A10 := Aside0.mk A100
     clear A100
     simp only [Option.some.injEq, Prod.mk.injEq] at H
     obtain ⟨rfl, rfl⟩ := H
     go_wp2_with (first | ((with_reducible refine gate_callee (f := 76) rfl ?_); refine goesL_ (some 19) rfl rfl Try.func76 (by kernel_rfl) rfl #[.slice A0 l0.length c0, .slice A1 l1.length c1] rfl (by (try simp only [List.map_toArray, List.map_cons, List.map_nil]); first | done | rfl | (simp only [List.length_drop, List.length_take]; rfl)) ?_; (with_reducible refine (tenetref24_mul.calls kj2 _ _ l0 _ _ l1 t613 true _ ?side1 ?side2 ?side3 ?side4 A8.out).mono ?_); (case side1 => repeat (first | exact (Kd.C_below HR0.out HB.out) | (with_reducible refine Kd.C_alloc ?_ _) | (with_reducible refine Kd.C_drewN ?_ _) | (with_reducible refine Kd.C_drew ?_))); (case side2 => exact HC0.out); (case side3 => repeat (first | exact (Kd.C_below HR1.out HB.out) | (with_reducible refine Kd.C_alloc ?_ _) | (with_reducible refine Kd.C_drewN ?_ _) | (with_reducible refine Kd.C_drew ?_))); (case side4 => exact HC1.out); rintro e w11 ⟨v614, rfl, ho0, hb⟩; refine ⟨_, rfl, ?_⟩; have n0_ := Aside0.mk (Kd.N_lower (Kd.N_mono (ok' := fun k_ => (w.heap.size ≤ k_)) ho0 (fun k_ hk_ => (Nat.le_trans (below_size (by repeat (first | (with_reducible first | exact HB.out | apply below_alloc | apply pw_below_drewN | apply below_drew1) | exact HB.out))) hk_))) (below_size (by repeat (first | (with_reducible first | exact HB.out | apply below_alloc | apply pw_below_drewN | apply below_drew1) | exact HB.out)))); have n1_ := Aside0.mk (below_step (by repeat (first | (with_reducible first | exact HB.out | apply below_alloc | apply pw_below_drewN | apply below_drew1) | exact HB.out)) hb); clear HB; have HO615 := n0_; have HB := n1_; clear n0_ n1_; (try clear hb); (try clear hb2); (try clear hk); (try clear hi); (try clear ho0); obtain ⟨Ao12, co12, eo12⟩ := Kd.N_slice HO615.out; subst eo12) | ((with_reducible refine gate_callee (f := 68) rfl ?_); refine goesL_ (some 25) rfl rfl Try.func68 (by kernel_rfl) rfl #[.slice Ao12 t613.length co12] rfl (by (try simp only [List.map_toArray, List.map_cons, List.map_nil]); first | done | rfl | (simp only [List.length_drop, List.length_take]; rfl)) ?_; (with_reducible refine (tenetref24_copied.calls kj2 _ _ t613 t617 _ ?side1 ?side2 A10.out).mono ?_); (case side1 => repeat (first | exact (Kd.N_reads' HO615.out).2.2 | (with_reducible refine Kd.C_alloc ?_ _) | (with_reducible refine Kd.C_drewN ?_ _) | (with_reducible refine Kd.C_drew ?_))); (case side2 => exact (Kd.N_reads' HO615.out).2.1); rintro e w13 ⟨v618, rfl, ho0, hb⟩; refine ⟨_, rfl, ?_⟩; have n0_ := Aside0.mk (Kd.N_elder' (by (with_reducible repeat (first | apply Kd.N_alloc | apply Kd.N_drewN | apply Kd.N_drew)); exact HO615.out) (by first | exact Kd.N_base ho0 | exact Kd.R_base ho0 | exact Kd.R_base (Kd.S_R ho0)) hb); have n1_ := Aside0.mk (Kd.N_lower (Kd.N_mono (ok' := fun k_ => (w.heap.size ≤ k_) ∧ some k_ ≠ (.slice Ao12 t613.length co12 : Value).ownBlock) (Kd.S_N (Kd.S_bound ho0)) (fun k_ hk_ => ⟨(Nat.le_trans (below_size (by repeat (first | (with_reducible first | exact HB.out | apply below_alloc | apply pw_below_drewN | apply below_drew1) | exact HB.out))) hk_.2.1), (Kd.fresh' (Kd.N_lt (by (with_reducible repeat (first | apply Kd.N_alloc | apply Kd.N_drewN | apply Kd.N_drew)); exact HO615.out)) k_ hk_.2.1)⟩)) (below_size (by repeat (first | (with_reducible first | exact HB.out | apply below_alloc | apply pw_below_drewN | apply below_drew1) | exact HB.out)))); have n2_ := Aside0.mk (below_step (by repeat (first | (with_reducible first | exact HB.out | apply below_alloc | apply pw_below_drewN | apply below_drew1) | exact HB.out)) hb); clear HO615; clear HB; have HO615 := n0_; have HO619 := n1_; have HB := n2_; clear n0_ n1_ n2_; (try clear hb); (try clear hb2); (try clear hk); (try clear hi); (try clear ho0)))
     go_ret2
     exact ⟨_, by first | rfl | (simp [errW_none, errW_some] <;> rfl) | (simp [*, errW_none, errW_some] <;> rfl), by (with_reducible repeat (first | apply Kd.N_alloc | apply Kd.N_drewN | apply Kd.N_drew)); exact Kd.N_mono HO619.out (fun _ hk => hk.1), by repeat (first | (with_reducible first | exact HB.out | apply below_alloc | apply pw_below_drewN | apply below_drew1) | exact HB.out)⟩
    ·replace c9 := Bool.eq_false_iff.mpr c9
     subst c9
     have H1 : (some (([] : List (S60)), 2)) = some (r1, r2) := by rw [if_neg (show ¬ (false = true) by decide)] at H; exact H
     clear H
     have H := H1
     clear H1
     simp only [Option.some.injEq, Prod.mk.injEq] at H
     obtain ⟨rfl, rfl⟩ := H
     go_wp2_with (first | ((with_reducible refine gate_callee (f := 76) rfl ?_); refine goesL_ (some 19) rfl rfl Try.func76 (by kernel_rfl) rfl #[.slice A0 l0.length c0, .slice A1 l1.length c1] rfl (by (try simp only [List.map_toArray, List.map_cons, List.map_nil]); first | done | rfl | (simp only [List.length_drop, List.length_take]; rfl)) ?_; (with_reducible refine (tenetref24_mul.calls kj2 _ _ l0 _ _ l1 t613 false _ ?side1 ?side2 ?side3 ?side4 A8.out).mono ?_); (case side1 => repeat (first | exact (Kd.C_below HR0.out HB.out) | (with_reducible refine Kd.C_alloc ?_ _) | (with_reducible refine Kd.C_drewN ?_ _) | (with_reducible refine Kd.C_drew ?_))); (case side2 => exact HC0.out); (case side3 => repeat (first | exact (Kd.C_below HR1.out HB.out) | (with_reducible refine Kd.C_alloc ?_ _) | (with_reducible refine Kd.C_drewN ?_ _) | (with_reducible refine Kd.C_drew ?_))); (case side4 => exact HC1.out); rintro e w14 ⟨v614, rfl, ho0, hb⟩; refine ⟨_, rfl, ?_⟩; have n0_ := Aside0.mk (Kd.N_lower (Kd.N_mono (ok' := fun k_ => (w.heap.size ≤ k_)) ho0 (fun k_ hk_ => (Nat.le_trans (below_size (by repeat (first | (with_reducible first | exact HB.out | apply below_alloc | apply pw_below_drewN | apply below_drew1) | exact HB.out))) hk_))) (below_size (by repeat (first | (with_reducible first | exact HB.out | apply below_alloc | apply pw_below_drewN | apply below_drew1) | exact HB.out)))); have n1_ := Aside0.mk (below_step (by repeat (first | (with_reducible first | exact HB.out | apply below_alloc | apply pw_below_drewN | apply below_drew1) | exact HB.out)) hb); clear HB; have HO615 := n0_; have HB := n1_; clear n0_ n1_; (try clear hb); (try clear hb2); (try clear hk); (try clear hi); (try clear ho0)))
     go_ret2
     exact ⟨_, by first | rfl | (simp [errW_none, errW_some] <;> rfl) | (simp [*, errW_none, errW_some] <;> rfl), by first | exact Kd.S_nil _ _ _ _ _ | exact Kd.N_nil _ _ _ _ _ | exact Kd.V_nil _ _ _ _ _ | exact Kd.Q_nil _ _ _ _ _ | exact Kd.R_nil _ _ _ _ _, by repeat (first | (with_reducible first | exact HB.out | apply below_alloc | apply pw_below_drewN | apply below_drew1) | exact HB.out)⟩
end Go.Proofs.Ythkclagcbjnckaa.Pa

namespace Go.Proofs.Ythkclagcbjnckaa.Pa
open Go.RowKit Go.Proofs.RawMap Go.Proofs.YthkclagcbjnckaaW.PrintWords Go.Proofs.YthkclagcbjnckaaW.PrintLast Go.Proofs.YthkclagcbjnckaaW.PrintMore
set_option linter.unusedVariables false
set_option linter.unusedSimpArgs false
theorem isR_sorted : ∀ (l : List S60) (p : Option (List Int)), isR p l = true → SortedM l ∧ (∀ m ∈ l, monoB m = true ∧ expsB m = true) ∧ ∀ z, p = some z → ∀ m ∈ l, lexC z m.f1 > 0
  | [], _, _ => ⟨by simp [SortedM], by simp, by simp⟩
  | m :: r, p, h => by
    simp only [isR, Bool.and_eq_true] at h
    obtain ⟨h1, h2, h3, h4⟩ := h
    obtain ⟨a1, a2, a3⟩ := isR_sorted r _ h4
    refine ⟨List.pairwise_cons.2 ⟨a3 m.f1 rfl, a1⟩, fun x hx => ?_, fun z hz x hx => ?_⟩
    · rcases List.mem_cons.1 hx with rfl | hx
      · exact ⟨h1, h3⟩
      · exact a2 x hx
    · subst hz
      have hzm : lexC z m.f1 > 0 := by simpa [behindB] using h2
      rcases List.mem_cons.1 hx with rfl | hx
      · exact hzm
      · exact lexC_trans hzm (a3 m.f1 rfl x hx)
theorem isB_ref {l : List S60} (h : isB l = true) : RefNF l := by
  unfold isB at h
  rw [Bool.and_eq_true, decide_eq_true_eq] at h
  obtain ⟨a1, a2, _⟩ := isR_sorted l none h.2
  have key : ∀ q ∈ pm l, (q.1.length = 8 ∧ ∀ x ∈ q.1, 0 ≤ x ∧ x ≤ 60) ∧ 1 ≤ q.2 ∧ q.2 ≤ 1000000000000000 := by
    intro q hq
    obtain ⟨m, hm, rfl⟩ := List.mem_map.1 hq
    obtain ⟨b1, b2⟩ := a2 m hm
    unfold monoB at b1
    simp only [Bool.and_eq_true, decide_eq_true_eq] at b1
    unfold expsB at b2
    rw [List.all_eq_true] at b2
    exact ⟨⟨b1.2, fun x hx => by simpa using b2 x hx⟩, b1.1.1, b1.1.2⟩
  exact ⟨a1, ⟨⟨fun q hq => (key q hq).1, fun q hq => (key q hq).2.1, fun q hq => (key q hq).2.2⟩, by rw [pm_length]; exact h.1⟩⟩
def JoinAns (Q : Po) (okm : Bool) (a b : List S60) (l : List S60) (er : Int) : Prop :=
  er = (if (isB a && isB b) = true then (if (okm && fits (sumL Q)) = true then 0 else 2) else 4) ∧ (er = 0 → SortedM l ∧ (pm l).Perm (sumL Q)) ∧ (er ≠ 0 → l = [])
theorem JoinAns.uniq {Q : Po} {okm : Bool} {a b l l' : List S60} {er er' : Int} (h : JoinAns Q okm a b l er) (h' : JoinAns Q okm a b l' er') : l = l' ∧ er = er' := by
  obtain ⟨a1, a2, a3⟩ := h
  obtain ⟨b1, b2, b3⟩ := h'
  have e : er = er' := a1.trans b1.symm
  subst e
  by_cases h0 : er = 0
  · obtain ⟨s1, p1⟩ := a2 h0
    obtain ⟨s2, p2⟩ := b2 h0
    exact ⟨sorted_uniq s1 s2 (pm_inj_perm (p1.trans p2.symm)), rfl⟩
  · exact ⟨(a3 h0).trans (b3 h0).symm, rfl⟩
theorem JoinAns.small {Q : Po} {okm : Bool} {a b l : List S60} {er : Int} (h : JoinAns Q okm a b l er) (hE : isB a = true → isB b = true → okm = true → okE (sumL Q)) : l.length ≤ 1000000000 ∧ ∀ m ∈ l, m.f1.length ≤ 1000000000 := by
  by_cases h0 : er = 0
  · obtain ⟨s, p⟩ := h.2.1 h0
    have h1 := h.1
    rw [h0] at h1
    by_cases hab : (isB a && isB b) = true
    · rw [if_pos hab] at h1
      by_cases hf : (okm && fits (sumL Q)) = true
      · rw [Bool.and_eq_true] at hf hab
        refine ⟨by have := (fits_iff.1 hf.2).2; rw [← p.length_eq, pm_length] at this; omega, fun m hm => ?_⟩
        have := (hE hab.1 hab.2 hf.1 _ (p.mem_iff.1 (List.mem_map.2 ⟨m, hm, rfl⟩))).1
        have h8 : m.f1.length = 8 := this
        omega
      · rw [if_neg hf] at h1; cases h1
    · rw [if_neg hab] at h1; cases h1
  · rw [h.2.2 h0]; simp
def addQ (a b : List S60) : Po := pm a ++ pm b
def addK (a b : List S60) : Bool := true
theorem Add_okE {a b : List S60} (ha : isB a = true) (hb : isB b = true) (hk : addK a b = true) : okE (sumL (addQ a b)) := okE_sumL _ (okE_app (okE_pm (isB_ref ha)) (okE_pm (isB_ref hb)))
set_option maxHeartbeats 1000000 in
theorem refAdd_ev (a b : List S60) : ∃ l er, Ev (fun k => tenetref24_Add.f k a b) (l, er) ∧ JoinAns (addQ a b) (addK a b) a b l er := by
  have no : (isB a && isB b) = false → JoinAns (addQ a b) (addK a b) a b [] 4 := fun h => ⟨by rw [if_neg (by rw [h]; simp)], by simp, fun _ => rfl⟩
  cases ha : isB a with
  | false =>
    refine ⟨[], 4, Ev.congr (fun k => rfl) (Ev.bind (Is_ev a) ?_), ?_⟩
    · rw [ha]
      simp only [Bool.false_eq_true, if_false]
      refine Ev.step (f := fun _ => some ([], 4)) (fun k => ?_) (Ev.now _)
      rw [tenetref24_Add.j0, if_pos rfl]
    · exact no (by rw [ha]; rfl)
  | true =>
    cases hb : isB b with
    | false =>
      refine ⟨[], 4, Ev.congr (fun k => rfl) (Ev.bind (Is_ev a) ?_), ?_⟩
      · rw [ha]
        simp only [if_true]
        refine Ev.bind (Is_ev b) ?_
        rw [hb]
        refine Ev.step (f := fun _ => some ([], 4)) (fun k => ?_) (Ev.now _)
        rw [tenetref24_Add.j0, if_pos (show (!false) = true from rfl)]
      · exact no (by rw [hb, Bool.and_false])
    | true =>
      obtain ⟨l, ok, h1, h2, h3⟩ := addRef_ev a b (isB_ref ha) (isB_ref hb)
      have h2' : ok = (addK a b && fits (sumL (addQ a b))) := h2
      have key : ∀ (r : List S60 × Int), Ev (fun k => tenetref24_Add.j0 k a b false) r → Ev (fun k => tenetref24_Add.f k a b) r := fun r hr => by
        refine Ev.congr (fun k => rfl) (Ev.bind (Is_ev a) ?_)
        rw [ha]
        simp only [if_true]
        refine Ev.bind (Is_ev b) ?_
        rw [hb]
        exact hr
      cases ok with
      | false =>
        refine ⟨[], 2, key _ (Ev.step (f := fun k => (tenetref24_add.f k a b).bind fun bt604 => (if bt604.2 = true then ((tenetref24_copied.f k bt604.1).bind fun t608 => (some (t608, 0))) else (some (([] : List (S60)), 2)))) (fun k => ?_) (Ev.bind h1 ?_)), ⟨by rw [if_pos (by rw [ha, hb]; rfl), ← h2']; rfl, by simp, fun _ => rfl⟩⟩
        · rw [tenetref24_Add.j0, if_neg (by simp)]
        · simp only [Bool.false_eq_true, if_false]; exact Ev.now _
      | true =>
        obtain ⟨hs, hp⟩ := h3 rfl
        have hans : JoinAns (addQ a b) (addK a b) a b l 0 := ⟨by rw [if_pos (by rw [ha, hb]; rfl), ← h2']; rfl, fun _ => ⟨hs, hp⟩, fun h => absurd rfl h⟩
        have hsm := hans.small (fun h1 h2 h3 => Add_okE h1 h2 h3)
        refine ⟨l, 0, key _ (Ev.step (f := fun k => (tenetref24_add.f k a b).bind fun bt604 => (if bt604.2 = true then ((tenetref24_copied.f k bt604.1).bind fun t608 => (some (t608, 0))) else (some (([] : List (S60)), 2)))) (fun k => ?_) (Ev.bind h1 ?_)), hans⟩
        · rw [tenetref24_Add.j0, if_neg (by simp)]
        · simp only [if_true]
          exact Ev.bind (copied_ev l hsm.1 hsm.2) (Ev.now _)
theorem AddA_ex (a b : List S60) : ∃ r : List S60 × Int, JoinAns (addQ a b) (addK a b) a b r.1 r.2 := by
  obtain ⟨l, er, _, h⟩ := refAdd_ev a b
  exact ⟨(l, er), h⟩
noncomputable def AddA (a b : List S60) : List S60 × Int := (AddA_ex a b).choose
theorem AddA_ans (a b : List S60) : JoinAns (addQ a b) (addK a b) a b (AddA a b).1 (AddA a b).2 := (AddA_ex a b).choose_spec
theorem AddA_of {a b l : List S60} {er : Int} (h : JoinAns (addQ a b) (addK a b) a b l er) : AddA a b = (l, er) := by
  obtain ⟨h1, h2⟩ := (AddA_ans a b).uniq h
  exact Prod.ext h1 h2
def AddPst (a b : List S60) (w : World) (e : Ending) (w' : World) : Prop :=
  ∃ v, e = .returned (.tuple #[v, .int .i64 (AddA a b).2]) ∧ Kd.V k60 60 w' w.heap.size (fun k => w.heap.size ≤ k) v (AddA a b).1 ∧ Below w.heap.size w w'
set_option maxRecDepth 100000 in
set_option maxHeartbeats 4000000 in
theorem joinedAdd_c (a b : List S60) (A1 A2 : Option Addr) (c1 c2 : Nat) (w : World) (hr1 : k60.C w A1 a.length a) (hc1 : a.length ≤ c1) (hr2 : k60.C w A2 b.length b) (hc2 : b.length ≤ c2) :
    Calls Try.prog 72 #[.slice A1 a.length c1, .slice A2 b.length c2, .func (.func 73) #[] #[]] w (AddPst a b w) := by
  have R1 := Aside0.mk (read_c a A1 c1 w hr1 hc1)
  have HR2 := Aside0.mk hr2
  have HC2 := Aside0.mk hc2
  obtain ⟨va, hva⟩ : ∃ va, va = isB a := ⟨_, rfl⟩
  obtain ⟨vb, hvb⟩ : ∃ vb, vb = isB b := ⟨_, rfl⟩
  rw [← hva] at R1
  have VA := Aside0.mk hva
  have VB := Aside0.mk hvb
  clear hr1 hc1 hr2 hc2 hva hvb
  go_enter Try.func72, Try.ntmps72
  go_wp2_with fail
  refine R1.out.mono ?_
  rintro e w2 ⟨ra, rfl, hra, hb⟩
  have HB2 := Aside0.mk hb
  have RA := Aside0.mk hra
  have R2 := Aside0.mk (read_c b A2 c2 w2 (Kd.C_below HR2.out HB2.out) HC2.out)
  rw [← VB.out] at R2
  clear hra hb R1
  go_wp2_with fail
  refine R2.out.mono ?_
  rintro e w3 ⟨rb, rfl, hrb, hb⟩
  have HB23 := Aside0.mk hb
  have HB3 := Aside0.mk (below_then HB2.out HB2.out.size hb)
  have RB := Aside0.mk hrb
  clear hrb hb R2
  cases va with
  | false =>
    have HA := Aside0.mk (AddA_of (a := a) (b := b) (l := []) (er := 4) ⟨by rw [if_neg (by rw [← VA.out]; simp)], by simp, fun _ => rfl⟩)
    go_wp2
    go_ret2
    exact ⟨.slice none 0 0, by rw [HA.out]; rfl, by rw [HA.out]; exact Kd.V_nil _ _ _ _ _, HB3.out⟩
  | true =>
    cases vb with
    | false =>
      have HA := Aside0.mk (AddA_of (a := a) (b := b) (l := []) (er := 4) ⟨by rw [if_neg (by rw [← VB.out]; simp)], by simp, fun _ => rfl⟩)
      go_wp2
      go_ret2
      exact ⟨.slice none 0 0, by rw [HA.out]; rfl, by rw [HA.out]; exact Kd.V_nil _ _ _ _ _, HB3.out⟩
    | true =>
      obtain ⟨b1, rfl, hp1⟩ := RA.out rfl
      obtain ⟨b2, rfl, hp2⟩ := RB.out rfl
      have GA := Aside0.mk (isB_ref VA.out.symm)
      have GB := Aside0.mk (isB_ref VB.out.symm)
      have HC := Aside0.mk (plus_c b1 b2 (pm a) (pm b) w3 (hp1.kept (grown_of_below HB23.out none) (by simp)) hp2 GA.out.nf.good GB.out.nf.good)
      clear hp1 hp2
      go_wp2_with fail
      refine HC.out.mono ?_
      rintro e w4 ⟨l, r, hl, rfl, hr, hb⟩
      have HB4 := Aside0.mk (below_then HB3.out HB3.out.size hb)
      have hfp : fits (sumL l) = fits (sumL (addQ a b)) := fits_perm (sumL_perm hl)
      obtain ⟨o, ho⟩ : ∃ o, o = (fits (sumL l)) := ⟨_, rfl⟩
      rw [← ho] at hr ⊢
      have HO := Aside0.mk (show o = (addK a b && fits (sumL (addQ a b))) by rw [← hfp, ho]; rfl)
      have HL := Aside0.mk hl
      have HRR := Aside0.mk hr
      clear hl hr hb ho hfp HC
      cases o with
      | false =>
        have HA := Aside0.mk (AddA_of (a := a) (b := b) (l := []) (er := 2) ⟨by rw [if_pos (by rw [← VA.out, ← VB.out]; rfl), ← HO.out]; rfl, by simp, fun _ => rfl⟩)
        go_wp2
        go_ret2
        exact ⟨.slice none 0 0, by rw [HA.out]; rfl, by rw [HA.out]; exact Kd.V_nil _ _ _ _ _, HB4.out⟩
      | true =>
        obtain ⟨b3, rfl, _, hp3⟩ := HRR.out rfl
        have hf := (Bool.and_eq_true _ _).mp HO.out.symm
        have hper : (sumL l).Perm (sumL (addQ a b)) := sumL_perm HL.out
        have hnf : NF (sumL l) := nf_perm hper.symm ⟨⟨Add_okE VA.out.symm VB.out.symm hf.1, okP_sumL _ (okP_app (okP_pm GA.out) (okP_pm GB.out)), (fits_iff.1 hf.2).1⟩, (fits_iff.1 hf.2).2⟩
        have LC := Aside0.mk (listed_c b3 (sumL l) w4 hp3 hnf)
        have HPER := Aside0.mk hper
        clear hp3 hf hper hnf
        go_wp2_with fail
        refine LC.out.mono ?_
        rintro e w5 ⟨v, l', rfl, hs, hpm, hv, hb⟩
        have HB5 := Aside0.mk (below_then HB4.out HB4.out.size hb)
        have HA := Aside0.mk (AddA_of (a := a) (b := b) (l := l') (er := 0) ⟨by rw [if_pos (by rw [← VA.out, ← VB.out]; rfl), ← HO.out]; rfl, fun _ => ⟨hs, hpm.trans HPER.out⟩, fun h => absurd rfl h⟩)
        have HVV := Aside0.mk hv
        clear hs hpm hv hb
        go_wp2
        go_ret2
        exact ⟨v, by rw [HA.out]; rfl, by rw [HA.out]; exact Kd.V_lower (Kd.V_mono HVV.out (fun k hk => Nat.le_trans HB4.out.size hk)) HB4.out.size, HB5.out⟩
set_option maxHeartbeats 1000000 in
theorem Add_c (a b : List S60) (A1 A2 : Option Addr) (c1 c2 : Nat) (w : World) (hr1 : k60.C w A1 a.length a) (hc1 : a.length ≤ c1) (hr2 : k60.C w A2 b.length b) (hc2 : b.length ≤ c2) :
    Calls Try.prog 32 #[.slice A1 a.length c1, .slice A2 b.length c2] w (AddPst a b w) := by
  have HC := Aside0.mk (joinedAdd_c a b A1 A2 c1 c2 w hr1 hc1 hr2 hc2)
  clear hr1 hc1 hr2 hc2
  go_enter Try.func32, Try.ntmps32
  go_wp2_with fail
  refine HC.out.mono ?_
  rintro e w2 ⟨v, rfl, hv, hb⟩
  have HV := Aside0.mk hv
  have HB := Aside0.mk hb
  clear hv hb HC
  go_wp2
  go_ret2
  exact ⟨v, rfl, HV.out, HB.out⟩
noncomputable def ring_Add.f (l0 : List S60) (l1 : List S60) : Option (List S60 × Int) := some (AddA l0 l1)
theorem ring_Add.calls (A0 : Option Addr) (c0 : Nat) (l0 : List S60) (A1 : Option Addr) (c1 : Nat) (l1 : List S60) (r1 : List S60) (r2 : Int) (w : World) (hr0 : Kd.C k60 w A0 l0.length l0) (hc0 : l0.length ≤ c0) (hr1 : Kd.C k60 w A1 l1.length l1) (hc1 : l1.length ≤ c1) (h : ring_Add.f l0 l1 = some (r1, r2)) :
    Calls Try.prog 32 #[.slice A0 l0.length c0, .slice A1 l1.length c1] w fun e w' => ∃ v0_ : Value, e = .returned (.tuple #[v0_, .int .i64 r2]) ∧ Kd.V k60 60 w' w.heap.size (fun k_ => (w.heap.size ≤ k_)) v0_ r1 ∧ Below w.heap.size w w' := by
  injection h with h
  have := Add_c l0 l1 A0 A1 c0 c1 w hr0 hc0 hr1 hc1
  unfold AddPst at this
  rw [h] at this
  exact this
def mulQ (a b : List S60) : Po := prodL (pm a) (pm b)
def mulK (a b : List S60) : Bool := okMul (pm a) (pm b)
theorem Mul_okE {a b : List S60} (ha : isB a = true) (hb : isB b = true) (hk : mulK a b = true) : okE (sumL (mulQ a b)) := okE_sumL _ (okE_prodL (okE_pm (isB_ref ha)) (okE_pm (isB_ref hb)) hk)
set_option maxHeartbeats 1000000 in
theorem refMul_ev (a b : List S60) : ∃ l er, Ev (fun k => tenetref24_Mul.f k a b) (l, er) ∧ JoinAns (mulQ a b) (mulK a b) a b l er := by
  have no : (isB a && isB b) = false → JoinAns (mulQ a b) (mulK a b) a b [] 4 := fun h => ⟨by rw [if_neg (by rw [h]; simp)], by simp, fun _ => rfl⟩
  cases ha : isB a with
  | false =>
    refine ⟨[], 4, Ev.congr (fun k => rfl) (Ev.bind (Is_ev a) ?_), ?_⟩
    · rw [ha]
      simp only [Bool.false_eq_true, if_false]
      refine Ev.step (f := fun _ => some ([], 4)) (fun k => ?_) (Ev.now _)
      rw [tenetref24_Mul.j0, if_pos rfl]
    · exact no (by rw [ha]; rfl)
  | true =>
    cases hb : isB b with
    | false =>
      refine ⟨[], 4, Ev.congr (fun k => rfl) (Ev.bind (Is_ev a) ?_), ?_⟩
      · rw [ha]
        simp only [if_true]
        refine Ev.bind (Is_ev b) ?_
        rw [hb]
        refine Ev.step (f := fun _ => some ([], 4)) (fun k => ?_) (Ev.now _)
        rw [tenetref24_Mul.j0, if_pos (show (!false) = true from rfl)]
      · exact no (by rw [hb, Bool.and_false])
    | true =>
      obtain ⟨l, ok, h1, h2, h3⟩ := mulRef_ev a b (isB_ref ha) (isB_ref hb)
      have h2' : ok = (mulK a b && fits (sumL (mulQ a b))) := h2
      have key : ∀ (r : List S60 × Int), Ev (fun k => tenetref24_Mul.j0 k a b false) r → Ev (fun k => tenetref24_Mul.f k a b) r := fun r hr => by
        refine Ev.congr (fun k => rfl) (Ev.bind (Is_ev a) ?_)
        rw [ha]
        simp only [if_true]
        refine Ev.bind (Is_ev b) ?_
        rw [hb]
        exact hr
      cases ok with
      | false =>
        refine ⟨[], 2, key _ (Ev.step (f := fun k => (tenetref24_mul.f k a b).bind fun bt604 => (if bt604.2 = true then ((tenetref24_copied.f k bt604.1).bind fun t608 => (some (t608, 0))) else (some (([] : List (S60)), 2)))) (fun k => ?_) (Ev.bind h1 ?_)), ⟨by rw [if_pos (by rw [ha, hb]; rfl), ← h2']; rfl, by simp, fun _ => rfl⟩⟩
        · rw [tenetref24_Mul.j0, if_neg (by simp)]
        · simp only [Bool.false_eq_true, if_false]; exact Ev.now _
      | true =>
        obtain ⟨hs, hp⟩ := h3 rfl
        have hans : JoinAns (mulQ a b) (mulK a b) a b l 0 := ⟨by rw [if_pos (by rw [ha, hb]; rfl), ← h2']; rfl, fun _ => ⟨hs, hp⟩, fun h => absurd rfl h⟩
        have hsm := hans.small (fun h1 h2 h3 => Mul_okE h1 h2 h3)
        refine ⟨l, 0, key _ (Ev.step (f := fun k => (tenetref24_mul.f k a b).bind fun bt604 => (if bt604.2 = true then ((tenetref24_copied.f k bt604.1).bind fun t608 => (some (t608, 0))) else (some (([] : List (S60)), 2)))) (fun k => ?_) (Ev.bind h1 ?_)), hans⟩
        · rw [tenetref24_Mul.j0, if_neg (by simp)]
        · simp only [if_true]
          exact Ev.bind (copied_ev l hsm.1 hsm.2) (Ev.now _)
theorem MulA_ex (a b : List S60) : ∃ r : List S60 × Int, JoinAns (mulQ a b) (mulK a b) a b r.1 r.2 := by
  obtain ⟨l, er, _, h⟩ := refMul_ev a b
  exact ⟨(l, er), h⟩
noncomputable def MulA (a b : List S60) : List S60 × Int := (MulA_ex a b).choose
theorem MulA_ans (a b : List S60) : JoinAns (mulQ a b) (mulK a b) a b (MulA a b).1 (MulA a b).2 := (MulA_ex a b).choose_spec
theorem MulA_of {a b l : List S60} {er : Int} (h : JoinAns (mulQ a b) (mulK a b) a b l er) : MulA a b = (l, er) := by
  obtain ⟨h1, h2⟩ := (MulA_ans a b).uniq h
  exact Prod.ext h1 h2
def MulPst (a b : List S60) (w : World) (e : Ending) (w' : World) : Prop :=
  ∃ v, e = .returned (.tuple #[v, .int .i64 (MulA a b).2]) ∧ Kd.V k60 60 w' w.heap.size (fun k => w.heap.size ≤ k) v (MulA a b).1 ∧ Below w.heap.size w w'
set_option maxRecDepth 100000 in
set_option maxHeartbeats 4000000 in
theorem joinedMul_c (a b : List S60) (A1 A2 : Option Addr) (c1 c2 : Nat) (w : World) (hr1 : k60.C w A1 a.length a) (hc1 : a.length ≤ c1) (hr2 : k60.C w A2 b.length b) (hc2 : b.length ≤ c2) :
    Calls Try.prog 72 #[.slice A1 a.length c1, .slice A2 b.length c2, .func (.func 75) #[] #[]] w (MulPst a b w) := by
  have R1 := Aside0.mk (read_c a A1 c1 w hr1 hc1)
  have HR2 := Aside0.mk hr2
  have HC2 := Aside0.mk hc2
  obtain ⟨va, hva⟩ : ∃ va, va = isB a := ⟨_, rfl⟩
  obtain ⟨vb, hvb⟩ : ∃ vb, vb = isB b := ⟨_, rfl⟩
  rw [← hva] at R1
  have VA := Aside0.mk hva
  have VB := Aside0.mk hvb
  clear hr1 hc1 hr2 hc2 hva hvb
  go_enter Try.func72, Try.ntmps72
  go_wp2_with fail
  refine R1.out.mono ?_
  rintro e w2 ⟨ra, rfl, hra, hb⟩
  have HB2 := Aside0.mk hb
  have RA := Aside0.mk hra
  have R2 := Aside0.mk (read_c b A2 c2 w2 (Kd.C_below HR2.out HB2.out) HC2.out)
  rw [← VB.out] at R2
  clear hra hb R1
  go_wp2_with fail
  refine R2.out.mono ?_
  rintro e w3 ⟨rb, rfl, hrb, hb⟩
  have HB23 := Aside0.mk hb
  have HB3 := Aside0.mk (below_then HB2.out HB2.out.size hb)
  have RB := Aside0.mk hrb
  clear hrb hb R2
  cases va with
  | false =>
    have HA := Aside0.mk (MulA_of (a := a) (b := b) (l := []) (er := 4) ⟨by rw [if_neg (by rw [← VA.out]; simp)], by simp, fun _ => rfl⟩)
    go_wp2
    go_ret2
    exact ⟨.slice none 0 0, by rw [HA.out]; rfl, by rw [HA.out]; exact Kd.V_nil _ _ _ _ _, HB3.out⟩
  | true =>
    cases vb with
    | false =>
      have HA := Aside0.mk (MulA_of (a := a) (b := b) (l := []) (er := 4) ⟨by rw [if_neg (by rw [← VB.out]; simp)], by simp, fun _ => rfl⟩)
      go_wp2
      go_ret2
      exact ⟨.slice none 0 0, by rw [HA.out]; rfl, by rw [HA.out]; exact Kd.V_nil _ _ _ _ _, HB3.out⟩
    | true =>
      obtain ⟨b1, rfl, hp1⟩ := RA.out rfl
      obtain ⟨b2, rfl, hp2⟩ := RB.out rfl
      have GA := Aside0.mk (isB_ref VA.out.symm)
      have GB := Aside0.mk (isB_ref VB.out.symm)
      have HC := Aside0.mk (product_c b1 b2 (pm a) (pm b) w3 (hp1.kept (grown_of_below HB23.out none) (by simp)) hp2 GA.out.nf.good GB.out.nf.good)
      clear hp1 hp2
      go_wp2_with fail
      refine HC.out.mono ?_
      rintro e w4 ⟨l, r, hl, rfl, hr, hb⟩
      have HB4 := Aside0.mk (below_then HB3.out HB3.out.size hb)
      have hfp : fits (sumL l) = fits (sumL (mulQ a b)) := fits_perm (sumL_perm hl)
      obtain ⟨o, ho⟩ : ∃ o, o = (okMul (pm a) (pm b) && fits (sumL l)) := ⟨_, rfl⟩
      rw [← ho] at hr ⊢
      have HO := Aside0.mk (show o = (mulK a b && fits (sumL (mulQ a b))) by rw [← hfp, ho]; rfl)
      have HL := Aside0.mk hl
      have HRR := Aside0.mk hr
      clear hl hr hb ho hfp HC
      cases o with
      | false =>
        have HA := Aside0.mk (MulA_of (a := a) (b := b) (l := []) (er := 2) ⟨by rw [if_pos (by rw [← VA.out, ← VB.out]; rfl), ← HO.out]; rfl, by simp, fun _ => rfl⟩)
        go_wp2
        go_ret2
        exact ⟨.slice none 0 0, by rw [HA.out]; rfl, by rw [HA.out]; exact Kd.V_nil _ _ _ _ _, HB4.out⟩
      | true =>
        obtain ⟨b3, rfl, _, hp3⟩ := HRR.out rfl
        have hf := (Bool.and_eq_true _ _).mp HO.out.symm
        have hper : (sumL l).Perm (sumL (mulQ a b)) := sumL_perm HL.out
        have hnf : NF (sumL l) := nf_perm hper.symm ⟨⟨Mul_okE VA.out.symm VB.out.symm hf.1, okP_sumL _ (okP_prodL (okP_pm GA.out) (okP_pm GB.out)), (fits_iff.1 hf.2).1⟩, (fits_iff.1 hf.2).2⟩
        have LC := Aside0.mk (listed_c b3 (sumL l) w4 hp3 hnf)
        have HPER := Aside0.mk hper
        clear hp3 hf hper hnf
        go_wp2_with fail
        refine LC.out.mono ?_
        rintro e w5 ⟨v, l', rfl, hs, hpm, hv, hb⟩
        have HB5 := Aside0.mk (below_then HB4.out HB4.out.size hb)
        have HA := Aside0.mk (MulA_of (a := a) (b := b) (l := l') (er := 0) ⟨by rw [if_pos (by rw [← VA.out, ← VB.out]; rfl), ← HO.out]; rfl, fun _ => ⟨hs, hpm.trans HPER.out⟩, fun h => absurd rfl h⟩)
        have HVV := Aside0.mk hv
        clear hs hpm hv hb
        go_wp2
        go_ret2
        exact ⟨v, by rw [HA.out]; rfl, by rw [HA.out]; exact Kd.V_lower (Kd.V_mono HVV.out (fun k hk => Nat.le_trans HB4.out.size hk)) HB4.out.size, HB5.out⟩
set_option maxHeartbeats 1000000 in
theorem Mul_c (a b : List S60) (A1 A2 : Option Addr) (c1 c2 : Nat) (w : World) (hr1 : k60.C w A1 a.length a) (hc1 : a.length ≤ c1) (hr2 : k60.C w A2 b.length b) (hc2 : b.length ≤ c2) :
    Calls Try.prog 34 #[.slice A1 a.length c1, .slice A2 b.length c2] w (MulPst a b w) := by
  have HC := Aside0.mk (joinedMul_c a b A1 A2 c1 c2 w hr1 hc1 hr2 hc2)
  clear hr1 hc1 hr2 hc2
  go_enter Try.func34, Try.ntmps34
  go_wp2_with fail
  refine HC.out.mono ?_
  rintro e w2 ⟨v, rfl, hv, hb⟩
  have HV := Aside0.mk hv
  have HB := Aside0.mk hb
  clear hv hb HC
  go_wp2
  go_ret2
  exact ⟨v, rfl, HV.out, HB.out⟩
noncomputable def ring_Mul.f (l0 : List S60) (l1 : List S60) : Option (List S60 × Int) := some (MulA l0 l1)
theorem ring_Mul.calls (A0 : Option Addr) (c0 : Nat) (l0 : List S60) (A1 : Option Addr) (c1 : Nat) (l1 : List S60) (r1 : List S60) (r2 : Int) (w : World) (hr0 : Kd.C k60 w A0 l0.length l0) (hc0 : l0.length ≤ c0) (hr1 : Kd.C k60 w A1 l1.length l1) (hc1 : l1.length ≤ c1) (h : ring_Mul.f l0 l1 = some (r1, r2)) :
    Calls Try.prog 34 #[.slice A0 l0.length c0, .slice A1 l1.length c1] w fun e w' => ∃ v0_ : Value, e = .returned (.tuple #[v0_, .int .i64 r2]) ∧ Kd.V k60 60 w' w.heap.size (fun k_ => (w.heap.size ≤ k_)) v0_ r1 ∧ Below w.heap.size w w' := by
  injection h with h
  have := Mul_c l0 l1 A0 A1 c0 c1 w hr0 hc0 hr1 hc1
  unfold MulPst at this
  rw [h] at this
  exact this
end Go.Proofs.Ythkclagcbjnckaa.Pa


namespace Go.Proofs.Ythkclagcbjnckaa.Pa
open Go.RowKit Go.Proofs.YthkclagcbjnckaaW.PrintWords Go.Proofs.YthkclagcbjnckaaW.PrintLast Go.Proofs.YthkclagcbjnckaaW.PrintMore
attribute [local go_sem] max2_int min2_int max_two min_two max_three min_three max_four min_four
set_option linter.unusedVariables false
set_option linter.unusedSimpArgs false
def tenetlaw24_bigList.l0 : Nat → List (S60) → Int → Option (Bool)
 | 0, _, _ => none
 | k + 1, x0, x3 => if x3 < (x0.length : Int) then (if 0 ≤ x3 then (if (((rd_T60 x0 x3).f1).length : Int) > 20 then (some true) else (tenetlaw24_bigList.l0 k x0 (wrap64 (x3 + 1)))) else (none)) else (some false)
def tenetlaw24_bigList.f (k : Nat) (l0 : List (S60)) : Option (Bool) := if (l0.length : Int) > 300 then (some true) else (tenetlaw24_bigList.l0 k l0 0)
set_option maxHeartbeats 8000000 in
set_option maxRecDepth 100000 in
theorem tenetlaw24_bigList.calls (k : Nat) (A0 : Option Addr) (c0 : Nat) (l0 : List (S60)) (r : Bool) (w : World) (hr0 : Kd.C k60 w A0 l0.length l0) (hc0 : l0.length ≤ c0) (h : tenetlaw24_bigList.f k l0 = some r) :
  Calls Try.prog 12 #[.slice A0 l0.length c0] w fun e w' => e = .returned (.bool r) ∧ Drawn0 w w' := by
 have HR0 := Aside0.mk hr0
 have HC0 := Aside0.mk hc0
 clear hr0 hc0
 have H : (if (l0.length : Int) > 300 then (some true) else (tenetlaw24_bigList.l0 k l0 0)) = some r := h
 clear h
 by_cases c2 : (l0.length : Int) > 300
 ·rw [if_pos c2] at H
  have c2b0 : decide (300 < (l0.length : Int)) = true := decide_eq_true c2
  have c2b1 : decide (300 < l0.length) = true := decide_eq_true (by omega)
  clear c2
  obtain rfl := Option.some.inj H
  go_enter Try.func12, Try.ntmps12
  go_wp2
  go_ret
  exact ⟨by first | rfl | (simp; done) | (simp [*]; done), by repeat (first | exact Drawn0.refl _ | apply Drawn0.step)⟩
 ·rw [if_neg c2] at H
  have c2b0 : decide (300 < (l0.length : Int)) = false := decide_eq_false c2
  have c2b1 : decide (300 < l0.length) = false := decide_eq_false (by omega)
  clear c2
  have H' := Aside0.mk H
  clear H
  go_enter Try.func12, Try.ntmps12
  go_wp2
  go_loopg [3] k (fun kq v3 w' => ∃ (x3_1 : Int), v3 = .int .i64 x3_1 ∧ Aside0 (tenetlaw24_bigList.l0 kq l0 x3_1 = some r) ∧ Aside0 (kq ≤ k) ∧ Drawn0 w w')
  case atStart => exact ⟨(0), (by first | rfl | (simp; done) | (simp [*]; done)), H', ⟨Nat.le_refl _⟩, by repeat (first | exact Drawn0.refl _ | apply Drawn0.step)⟩
  case round =>
   clear H'
   try clear c1
   try clear c2
   try clear c2b0
   try clear c2b1
   try clear p2
   obtain ⟨x3_1, rfl, HA, HK1, ⟨m1, rfl⟩⟩ := hrel
   cases gk with
   | zero => exact absurd HA.out (by simp [tenetlaw24_bigList.l0])
   | succ k1 =>
    have H := HA.out
    clear HA
    simp only [tenetlaw24_bigList.l0] at H
    by_cases c3 : x3_1 < (l0.length : Int)
    ·rw [if_pos c3] at H
     have c3b0 : decide (x3_1 < (l0.length : Int)) = true := decide_eq_true c3
     clear c3
     by_cases c4 : 0 ≤ x3_1
     ·rw [if_pos c4] at H
      have c4b0 : decide (0 ≤ x3_1) = true := decide_eq_true c4
      clear c4
      by_cases c5 : (((rd_T60 l0 x3_1).f1).length : Int) > 20
      ·rw [if_pos c5] at H
       have c5b0 : decide (20 < (((rd_T60 l0 x3_1).f1).length : Int)) = true := decide_eq_true c5
       have c5b1 : decide (20 < ((rd_T60 l0 x3_1).f1).length) = true := decide_eq_true (by omega)
       clear c5
       obtain rfl := Option.some.inj H
       have p101 : 0 ≤ (x3_1 : Int) := of_decide_eq_true (by first | (with_reducible assumption) | assumption)
       have q101 : x3_1 < (l0.length : Int) := of_decide_eq_true (by first | (with_reducible assumption) | assumption)
       obtain ⟨ad101, A101_1, c101_1, e101, hx101_0, hx101_1, hl101_1, hi101_1⟩ := at_T60 HR0.out x3_1 p101 q101
       cases e101
       have HR101_1 := Aside0.mk hi101_1
       have HC101_1 := Aside0.mk hl101_1
       clear hi101_1 hl101_1
       replace p101 := eq_true p101
       replace q101 := eq_true q101
       go_wp2
       go_ret
       exact ⟨by first | rfl | (simp; done) | (simp [*]; done), by repeat (first | exact Drawn0.refl _ | apply Drawn0.step)⟩
      ·rw [if_neg c5] at H
       have c5b0 : decide (20 < (((rd_T60 l0 x3_1).f1).length : Int)) = false := decide_eq_false c5
       have c5b1 : decide (20 < ((rd_T60 l0 x3_1).f1).length) = false := decide_eq_false (by omega)
       clear c5
       have H' := Aside0.mk H
       clear H
       have p101 : 0 ≤ (x3_1 : Int) := of_decide_eq_true (by first | (with_reducible assumption) | assumption)
       have q101 : x3_1 < (l0.length : Int) := of_decide_eq_true (by first | (with_reducible assumption) | assumption)
       obtain ⟨ad101, A101_1, c101_1, e101, hx101_0, hx101_1, hl101_1, hi101_1⟩ := at_T60 HR0.out x3_1 p101 q101
       cases e101
       have HR101_1 := Aside0.mk hi101_1
       have HC101_1 := Aside0.mk hl101_1
       clear hi101_1 hl101_1
       replace p101 := eq_true p101
       replace q101 := eq_true q101
       go_wp2
       go_roundg k1
       case measure => have := HK1.out; omega
       case rel => exact ⟨(wrap64 (x3_1 + 1)), (by first | rfl | (simp; done) | (simp [*]; done)), H', ⟨by have := HK1.out; omega⟩, by repeat (first | exact Drawn0.refl _ | apply Drawn0.step)⟩
     ·rw [if_neg c4] at H
      exact absurd H (by simp)
    ·rw [if_neg c3] at H
     have c3b0 : decide (x3_1 < (l0.length : Int)) = false := decide_eq_false c3
     clear c3
     obtain rfl := Option.some.inj H
     go_wp2
     go_ret
     exact ⟨by first | rfl | (simp; done) | (simp [*]; done), by repeat (first | exact Drawn0.refl _ | apply Drawn0.step)⟩
end Go.Proofs.Ythkclagcbjnckaa.Pa


namespace Go.Proofs.Ythkclagcbjnckaa.Pa
open Go.RowKit Go.Proofs.YthkclagcbjnckaaW.PrintWords Go.Proofs.YthkclagcbjnckaaW.PrintLast Go.Proofs.YthkclagcbjnckaaW.PrintMore
attribute [local go_sem] max2_int min2_int max_two min_two max_three min_three max_four min_four
set_option linter.unusedVariables false
set_option linter.unusedSimpArgs false
noncomputable def tenetlaw24_RingAdds.j0 : Nat → List (S60) → List (S60) → Bool → Option (Bool)
 | 0, _, _, _ => none
 | k + 1, x0, x1, x18 => if x18 = true then ((tenetlaw24_awake.f).bind fun t641 => (some t641)) else ((ring_Add.f x0 x1).bind fun bt642 => ((tenetref24_Add.f k x0 x1).bind fun bt646 => ((ring_Mul.f x0 x1).bind fun bt650 => ((tenetref24_Mul.f k x0 x1).bind fun bt654 => (if bt642.2 = bt646.2 then ((tenetref24_EqMonos.f k bt642.1 bt646.1).bind fun t658 => (if t658 = true then (if bt650.2 = bt654.2 then ((tenetref24_EqMonos.f k bt650.1 bt654.1).bind fun t659 => (if t659 = true then ((tenetlaw24_awake.f).bind fun t660 => (some t660)) else (some false))) else (some false)) else (some false))) else (some false))))))
noncomputable def tenetlaw24_RingAdds.f (k : Nat) (l0 : List (S60)) (l1 : List (S60)) : Option (Bool) := (tenetlaw24_bigList.f k l0).bind fun t639 => (if t639 = true then (tenetlaw24_RingAdds.j0 k l0 l1 true) else ((tenetlaw24_bigList.f k l1).bind fun t640 => (tenetlaw24_RingAdds.j0 k l0 l1 t640)))
set_option maxHeartbeats 8000000 in
set_option maxRecDepth 100000 in
theorem tenetlaw24_RingAdds.calls (k : Nat) (A0 : Option Addr) (c0 : Nat) (l0 : List (S60)) (A1 : Option Addr) (c1 : Nat) (l1 : List (S60)) (r : Bool) (w : World) (hr0 : Kd.C k60 w A0 l0.length l0) (hc0 : l0.length ≤ c0) (hr1 : Kd.C k60 w A1 l1.length l1) (hc1 : l1.length ≤ c1) (h : tenetlaw24_RingAdds.f k l0 l1 = some r) :
  Calls Try.prog 8 #[.slice A0 l0.length c0, .slice A1 l1.length c1] w fun e w' => e = .returned (.bool r) ∧ Below w.heap.size w w' := by
 have HR0 := Aside0.mk hr0
 have HC0 := Aside0.mk hc0
 clear hr0 hc0
 have HR1 := Aside0.mk hr1
 have HC1 := Aside0.mk hc1
 clear hr1 hc1
 have HB := Aside0.mk (Below.refl w.heap.size w)
 have H : ((tenetlaw24_bigList.f k l0).bind fun t639 => (if t639 = true then (tenetlaw24_RingAdds.j0 k l0 l1 true) else ((tenetlaw24_bigList.f k l1).bind fun t640 => (tenetlaw24_RingAdds.j0 k l0 l1 t640)))) = some r := h
 clear h
 have HC3 := Aside0.mk H
 clear H
 go_enter Try.func8, Try.ntmps8
 go_upto_region 1 with (fail)
 go_cut [18] (fun v18 wc => ∃ (kq : Nat) (x18_2 : Bool), v18 = .bool x18_2 ∧ Aside0 (tenetlaw24_RingAdds.j0 kq l0 l1 x18_2 = some r) ∧ Aside0 (kq ≤ k) ∧ Aside0 (Below w.heap.size w wc))
 case first =>
  have H := HC3.out
  clear HC3
  replace H := Option.bind_eq_some_iff.mp H
  obtain ⟨t639, A40, H⟩ := H
  replace H : (if t639 = true then (tenetlaw24_RingAdds.j0 k l0 l1 true) else ((tenetlaw24_bigList.f k l1).bind fun t640 => (tenetlaw24_RingAdds.j0 k l0 l1 t640))) = some r := H
  have A4 := Aside0.mk A40
  clear A40
  by_cases c5 : t639 = true
  ·subst c5
   have H1 : (tenetlaw24_RingAdds.j0 k l0 l1 true) = some r := by rw [if_pos rfl] at H; exact H
   clear H
   have H := H1
   clear H1
   have H' := Aside0.mk H
   clear H
   go_wp2_with (first | ((with_reducible refine gate_callee (f := 12) rfl ?_); refine goesL_ (some 14) rfl rfl Try.func12 (by kernel_rfl) rfl #[.slice A0 l0.length c0] rfl (by (try simp only [List.map_toArray, List.map_cons, List.map_nil]); first | done | rfl | (simp only [List.length_drop, List.length_take]; rfl)) ?_; (with_reducible refine (tenetlaw24_bigList.calls k _ _ l0 true _ ?side1 ?side2 A4.out).mono ?_); (case side1 => repeat (first | exact (Kd.C_below HR0.out HB.out) | (with_reducible refine Kd.C_alloc ?_ _) | (with_reducible refine Kd.C_drewN ?_ _) | (with_reducible refine Kd.C_drew ?_))); (case side2 => exact HC0.out); rintro e w' ⟨rfl, ⟨nd, rfl⟩⟩; refine ⟨_, rfl, ?_⟩))
   go_meet
   case rel => exact ⟨_, (true), (by first | rfl | (simp; done) | (simp [*]; done)), H', ⟨by first | omega | exact Nat.le_refl _⟩, ⟨by repeat (first | (with_reducible first | exact HB.out | apply below_alloc | apply pw_below_drewN | apply below_drew1) | exact HB.out)⟩⟩
  ·replace c5 := Bool.eq_false_iff.mpr c5
   subst c5
   have H1 : ((tenetlaw24_bigList.f k l1).bind fun t640 => (tenetlaw24_RingAdds.j0 k l0 l1 t640)) = some r := by rw [if_neg (show ¬ (false = true) by decide)] at H; exact H
   clear H
   have H := H1
   clear H1
   replace H := Option.bind_eq_some_iff.mp H
   obtain ⟨t640, A60, H⟩ := H
   replace H : (tenetlaw24_RingAdds.j0 k l0 l1 t640) = some r := H
   have A6 := Aside0.mk A60
   clear A60
   have H' := Aside0.mk H
   clear H
   go_wp2_with (first | ((with_reducible refine gate_callee (f := 12) rfl ?_); refine goesL_ (some 14) rfl rfl Try.func12 (by kernel_rfl) rfl #[.slice A0 l0.length c0] rfl (by (try simp only [List.map_toArray, List.map_cons, List.map_nil]); first | done | rfl | (simp only [List.length_drop, List.length_take]; rfl)) ?_; (with_reducible refine (tenetlaw24_bigList.calls k _ _ l0 false _ ?side1 ?side2 A4.out).mono ?_); (case side1 => repeat (first | exact (Kd.C_below HR0.out HB.out) | (with_reducible refine Kd.C_alloc ?_ _) | (with_reducible refine Kd.C_drewN ?_ _) | (with_reducible refine Kd.C_drew ?_))); (case side2 => exact HC0.out); rintro e w' ⟨rfl, ⟨nd, rfl⟩⟩; refine ⟨_, rfl, ?_⟩) | (go_at_call 12; (with_reducible refine (tenetlaw24_bigList.calls k _ _ l1 t640 _ ?side1 ?side2 A6.out).mono ?_); (case side1 => repeat (first | exact (Kd.C_below HR1.out (by repeat (first | (with_reducible first | exact HB.out | apply below_alloc | apply pw_below_drewN | apply below_drew1) | exact HB.out))) | (with_reducible refine Kd.C_alloc ?_ _) | (with_reducible refine Kd.C_drewN ?_ _) | (with_reducible refine Kd.C_drew ?_))); (case side2 => exact HC1.out); rintro e w' ⟨rfl, ⟨nd, rfl⟩⟩))
   go_meet
   case rel => exact ⟨_, (t640), (by first | rfl | (simp; done) | (simp [*]; done)), H', ⟨by first | omega | exact Nat.le_refl _⟩, ⟨by repeat (first | (with_reducible first | exact HB.out | apply below_alloc | apply pw_below_drewN | apply below_drew1) | exact HB.out)⟩⟩
 case rest =>
  clear HC3
  try clear c1
  try clear p2
  try clear c5
  obtain ⟨kq, x18_2, rfl, HA, HJ2, HB⟩ := hcut
  cases kq with
  | zero => exact absurd HA.out (by simp [tenetlaw24_RingAdds.j0])
  | succ kj2 =>
   have H := HA.out
   clear HA
   simp only [tenetlaw24_RingAdds.j0] at H
   by_cases c7 : x18_2 = true
   ·subst c7
    have H1 : ((tenetlaw24_awake.f).bind fun t641 => (some t641)) = some r := by rw [if_pos rfl] at H; exact H
    clear H
    have H := H1
    clear H1
    replace H := Option.bind_eq_some_iff.mp H
    obtain ⟨t641, A80, H⟩ := H
    replace H : (some t641) = some r := H
    have A8 := Aside0.mk A80
    clear A80
    obtain rfl := Option.some.inj H
    go_wp2_with (first | ((with_reducible refine gate_callee (f := 13) rfl ?_); refine goesL_ (some 19) rfl rfl Try.func13 (by kernel_rfl) rfl #[] rfl (by (try simp only [List.map_toArray, List.map_cons, List.map_nil]); first | done | rfl | (simp only [List.length_drop, List.length_take]; rfl)) ?_; (with_reducible refine (tenetlaw24_awake.calls  t641 _ A8.out).mono ?_); rintro e w9 ⟨rfl, hb⟩; refine ⟨_, rfl, ?_⟩; have n0_ := Aside0.mk (below_step (by repeat (first | (with_reducible first | exact HB.out | apply below_alloc | apply pw_below_drewN | apply below_drew1) | exact HB.out)) hb); clear HB; have HB := n0_; clear n0_; (try clear hb); (try clear hb2); (try clear hk); (try clear hi)))
    go_ret
    exact ⟨by first | rfl | (simp [errW_none, errW_some] <;> rfl) | (simp [*, errW_none, errW_some] <;> rfl), by repeat (first | (with_reducible first | exact HB.out | apply below_alloc | apply pw_below_drewN | apply below_drew1) | exact HB.out)⟩
   ·replace c7 := Bool.eq_false_iff.mpr c7
    subst c7
    have H1 : ((ring_Add.f l0 l1).bind fun bt642 => ((tenetref24_Add.f kj2 l0 l1).bind fun bt646 => ((ring_Mul.f l0 l1).bind fun bt650 => ((tenetref24_Mul.f kj2 l0 l1).bind fun bt654 => (if bt642.2 = bt646.2 then ((tenetref24_EqMonos.f kj2 bt642.1 bt646.1).bind fun t658 => (if t658 = true then (if bt650.2 = bt654.2 then ((tenetref24_EqMonos.f kj2 bt650.1 bt654.1).bind fun t659 => (if t659 = true then ((tenetlaw24_awake.f).bind fun t660 => (some t660)) else (some false))) else (some false)) else (some false))) else (some false)))))) = some r := by rw [if_neg (show ¬ (false = true) by decide)] at H; exact H
    clear H
    have H := H1
    clear H1
    replace H := Option.bind_eq_some_iff.mp H
    obtain ⟨⟨t642, t645⟩, A100, H⟩ := H
    replace H : ((tenetref24_Add.f kj2 l0 l1).bind fun bt646 => ((ring_Mul.f l0 l1).bind fun bt650 => ((tenetref24_Mul.f kj2 l0 l1).bind fun bt654 => (if t645 = bt646.2 then ((tenetref24_EqMonos.f kj2 t642 bt646.1).bind fun t658 => (if t658 = true then (if bt650.2 = bt654.2 then ((tenetref24_EqMonos.f kj2 bt650.1 bt654.1).bind fun t659 => (if t659 = true then ((tenetlaw24_awake.f).bind fun t660 => (some t660)) else (some false))) else (some false)) else (some false))) else (some false))))) = some r := H
    have A10 := Aside0.mk A100
    clear A100
    replace H := Option.bind_eq_some_iff.mp H
    obtain ⟨⟨t646, t647⟩, A110, H⟩ := H
    replace H : ((ring_Mul.f l0 l1).bind fun bt650 => ((tenetref24_Mul.f kj2 l0 l1).bind fun bt654 => (if t645 = t647 then ((tenetref24_EqMonos.f kj2 t642 t646).bind fun t658 => (if t658 = true then (if bt650.2 = bt654.2 then ((tenetref24_EqMonos.f kj2 bt650.1 bt654.1).bind fun t659 => (if t659 = true then ((tenetlaw24_awake.f).bind fun t660 => (some t660)) else (some false))) else (some false)) else (some false))) else (some false)))) = some r := H
    have A11 := Aside0.mk A110
    clear A110
    replace H := Option.bind_eq_some_iff.mp H
    obtain ⟨⟨t650, t653⟩, A120, H⟩ := H
    replace H : ((tenetref24_Mul.f kj2 l0 l1).bind fun bt654 => (if t645 = t647 then ((tenetref24_EqMonos.f kj2 t642 t646).bind fun t658 => (if t658 = true then (if t653 = bt654.2 then ((tenetref24_EqMonos.f kj2 t650 bt654.1).bind fun t659 => (if t659 = true then ((tenetlaw24_awake.f).bind fun t660 => (some t660)) else (some false))) else (some false)) else (some false))) else (some false))) = some r := H
    have A12 := Aside0.mk A120
    clear A120
    replace H := Option.bind_eq_some_iff.mp H
    obtain ⟨⟨t654, t657⟩, A130, H⟩ := H
    replace H : (if t645 = t647 then ((tenetref24_EqMonos.f kj2 t642 t646).bind fun t658 => (if t658 = true then (if t653 = t657 then ((tenetref24_EqMonos.f kj2 t650 t654).bind fun t659 => (if t659 = true then ((tenetlaw24_awake.f).bind fun t660 => (some t660)) else (some false))) else (some false)) else (some false))) else (some false)) = some r := H
    have A13 := Aside0.mk A130
    clear A130
    by_cases c14 : t645 = t647
    ·rw [if_pos c14] at H
     have c14b0 : (t645 == t647) = true := beq_iff_eq.mpr c14
     have c14b1 : (t645 != t647) = false := bne_eq_false_iff_eq.mpr c14
     clear c14
     replace H := Option.bind_eq_some_iff.mp H
     obtain ⟨t658, A150, H⟩ := H
     replace H : (if t658 = true then (if t653 = t657 then ((tenetref24_EqMonos.f kj2 t650 t654).bind fun t659 => (if t659 = true then ((tenetlaw24_awake.f).bind fun t660 => (some t660)) else (some false))) else (some false)) else (some false)) = some r := H
     have A15 := Aside0.mk A150
     clear A150
     by_cases c16 : t658 = true
     ·subst c16
      have H1 : (if t653 = t657 then ((tenetref24_EqMonos.f kj2 t650 t654).bind fun t659 => (if t659 = true then ((tenetlaw24_awake.f).bind fun t660 => (some t660)) else (some false))) else (some false)) = some r := by rw [if_pos rfl] at H; exact H
      clear H
      have H := H1
      clear H1
      by_cases c17 : t653 = t657
      ·rw [if_pos c17] at H
       have c17b0 : (t653 == t657) = true := beq_iff_eq.mpr c17
       have c17b1 : (t653 != t657) = false := bne_eq_false_iff_eq.mpr c17
       clear c17
       replace H := Option.bind_eq_some_iff.mp H
       obtain ⟨t659, A180, H⟩ := H
       replace H : (if t659 = true then ((tenetlaw24_awake.f).bind fun t660 => (some t660)) else (some false)) = some r := H
       have A18 := Aside0.mk A180
       clear A180
       by_cases c19 : t659 = true
       ·subst c19
        have H1 : ((tenetlaw24_awake.f).bind fun t660 => (some t660)) = some r := by rw [if_pos rfl] at H; exact H
        clear H
        have H := H1
        clear H1
        replace H := Option.bind_eq_some_iff.mp H
        obtain ⟨t660, A200, H⟩ := H
        replace H : (some t660) = some r := H
        have A20 := Aside0.mk A200
        clear A200
        obtain rfl := Option.some.inj H
        go_wp2_with (first | ((with_reducible refine gate_callee (f := 32) rfl ?_); refine goesL_ (some 23) rfl rfl Try.func32 (by kernel_rfl) rfl #[.slice A0 l0.length c0, .slice A1 l1.length c1] rfl (by (try simp only [List.map_toArray, List.map_cons, List.map_nil]); first | done | rfl | (simp only [List.length_drop, List.length_take]; rfl)) ?_; (with_reducible refine (ring_Add.calls _ _ l0 _ _ l1 t642 t645 _ ?side1 ?side2 ?side3 ?side4 A10.out).mono ?_); (case side1 => repeat (first | exact (Kd.C_below HR0.out HB.out) | (with_reducible refine Kd.C_alloc ?_ _) | (with_reducible refine Kd.C_drewN ?_ _) | (with_reducible refine Kd.C_drew ?_))); (case side2 => exact HC0.out); (case side3 => repeat (first | exact (Kd.C_below HR1.out HB.out) | (with_reducible refine Kd.C_alloc ?_ _) | (with_reducible refine Kd.C_drewN ?_ _) | (with_reducible refine Kd.C_drew ?_))); (case side4 => exact HC1.out); rintro e w21 ⟨v643, rfl, ho0, hb⟩; refine ⟨_, rfl, ?_⟩; have n0_ := Aside0.mk (Kd.V_lower (Kd.V_mono (ok' := fun k_ => True) ho0 (fun k_ hk_ => trivial)) (below_size (by repeat (first | (with_reducible first | exact HB.out | apply below_alloc | apply pw_below_drewN | apply below_drew1) | exact HB.out)))); have n1_ := Aside0.mk (below_step (by repeat (first | (with_reducible first | exact HB.out | apply below_alloc | apply pw_below_drewN | apply below_drew1) | exact HB.out)) hb); clear HB; have HO644 := n0_; have HB := n1_; clear n0_ n1_; (try clear hb); (try clear hb2); (try clear hk); (try clear hi); (try clear ho0)) | ((with_reducible refine gate_callee (f := 33) rfl ?_); refine goesL_ (some 29) rfl rfl Try.func33 (by kernel_rfl) rfl #[.slice A0 l0.length c0, .slice A1 l1.length c1] rfl (by (try simp only [List.map_toArray, List.map_cons, List.map_nil]); first | done | rfl | (simp only [List.length_drop, List.length_take]; rfl)) ?_; (with_reducible refine (tenetref24_Add.calls kj2 _ _ l0 _ _ l1 t646 t647 _ ?side1 ?side2 ?side3 ?side4 A11.out).mono ?_); (case side1 => repeat (first | exact (Kd.C_below HR0.out HB.out) | (with_reducible refine Kd.C_alloc ?_ _) | (with_reducible refine Kd.C_drewN ?_ _) | (with_reducible refine Kd.C_drew ?_))); (case side2 => exact HC0.out); (case side3 => repeat (first | exact (Kd.C_below HR1.out HB.out) | (with_reducible refine Kd.C_alloc ?_ _) | (with_reducible refine Kd.C_drewN ?_ _) | (with_reducible refine Kd.C_drew ?_))); (case side4 => exact HC1.out); rintro e w22 ⟨v648, rfl, ho0, hb⟩; refine ⟨_, rfl, ?_⟩; have n0_ := Aside0.mk (Kd.V_elder' (by (with_reducible repeat (first | apply Kd.V_alloc | apply Kd.V_drewN | apply Kd.V_drew)); exact HO644.out) (by first | exact Kd.N_base ho0 | exact Kd.R_base ho0 | exact Kd.R_base (Kd.S_R ho0)) hb); have n1_ := Aside0.mk (Kd.N_lower (Kd.N_mono (ok' := fun k_ => True) (Kd.S_N (Kd.S_bound ho0)) (fun k_ hk_ => trivial)) (below_size (by repeat (first | (with_reducible first | exact HB.out | apply below_alloc | apply pw_below_drewN | apply below_drew1) | exact HB.out)))); have n2_ := Aside0.mk (below_step (by repeat (first | (with_reducible first | exact HB.out | apply below_alloc | apply pw_below_drewN | apply below_drew1) | exact HB.out)) hb); clear HO644; clear HB; have HO644 := n0_; have HO649 := n1_; have HB := n2_; clear n0_ n1_ n2_; (try clear hb); (try clear hb2); (try clear hk); (try clear hi); (try clear ho0)) | ((with_reducible refine gate_callee (f := 34) rfl ?_); refine goesL_ (some 35) rfl rfl Try.func34 (by kernel_rfl) rfl #[.slice A0 l0.length c0, .slice A1 l1.length c1] rfl (by (try simp only [List.map_toArray, List.map_cons, List.map_nil]); first | done | rfl | (simp only [List.length_drop, List.length_take]; rfl)) ?_; (with_reducible refine (ring_Mul.calls _ _ l0 _ _ l1 t650 t653 _ ?side1 ?side2 ?side3 ?side4 A12.out).mono ?_); (case side1 => repeat (first | exact (Kd.C_below HR0.out HB.out) | (with_reducible refine Kd.C_alloc ?_ _) | (with_reducible refine Kd.C_drewN ?_ _) | (with_reducible refine Kd.C_drew ?_))); (case side2 => exact HC0.out); (case side3 => repeat (first | exact (Kd.C_below HR1.out HB.out) | (with_reducible refine Kd.C_alloc ?_ _) | (with_reducible refine Kd.C_drewN ?_ _) | (with_reducible refine Kd.C_drew ?_))); (case side4 => exact HC1.out); rintro e w23 ⟨v651, rfl, ho0, hb⟩; refine ⟨_, rfl, ?_⟩; have n0_ := Aside0.mk (Kd.V_below (by (with_reducible repeat (first | apply Kd.V_alloc | apply Kd.V_drewN | apply Kd.V_drew)); exact HO644.out) hb); have n1_ := Aside0.mk (Kd.N_below (by (with_reducible repeat (first | apply Kd.N_alloc | apply Kd.N_drewN | apply Kd.N_drew)); exact HO649.out) hb); have n2_ := Aside0.mk (Kd.V_lower (Kd.V_mono (ok' := fun k_ => some k_ ≠ (v648 : Value).ownBlock) ho0 (fun k_ hk_ => (Kd.fresh' (Kd.N_lt (by (with_reducible repeat (first | apply Kd.N_alloc | apply Kd.N_drewN | apply Kd.N_drew)); exact HO649.out)) k_ hk_))) (below_size (by repeat (first | (with_reducible first | exact HB.out | apply below_alloc | apply pw_below_drewN | apply below_drew1) | exact HB.out)))); have n3_ := Aside0.mk (below_step (by repeat (first | (with_reducible first | exact HB.out | apply below_alloc | apply pw_below_drewN | apply below_drew1) | exact HB.out)) hb); clear HO644; clear HO649; clear HB; have HO644 := n0_; have HO649 := n1_; have HO652 := n2_; have HB := n3_; clear n0_ n1_ n2_ n3_; (try clear hb); (try clear hb2); (try clear hk); (try clear hi); (try clear ho0)) | ((with_reducible refine gate_callee (f := 35) rfl ?_); refine goesL_ (some 41) rfl rfl Try.func35 (by kernel_rfl) rfl #[.slice A0 l0.length c0, .slice A1 l1.length c1] rfl (by (try simp only [List.map_toArray, List.map_cons, List.map_nil]); first | done | rfl | (simp only [List.length_drop, List.length_take]; rfl)) ?_; (with_reducible refine (tenetref24_Mul.calls kj2 _ _ l0 _ _ l1 t654 t657 _ ?side1 ?side2 ?side3 ?side4 A13.out).mono ?_); (case side1 => repeat (first | exact (Kd.C_below HR0.out HB.out) | (with_reducible refine Kd.C_alloc ?_ _) | (with_reducible refine Kd.C_drewN ?_ _) | (with_reducible refine Kd.C_drew ?_))); (case side2 => exact HC0.out); (case side3 => repeat (first | exact (Kd.C_below HR1.out HB.out) | (with_reducible refine Kd.C_alloc ?_ _) | (with_reducible refine Kd.C_drewN ?_ _) | (with_reducible refine Kd.C_drew ?_))); (case side4 => exact HC1.out); rintro e w24 ⟨v655, rfl, ho0, hb⟩; refine ⟨_, rfl, ?_⟩; have n0_ := Aside0.mk (Kd.V_elder' (by (with_reducible repeat (first | apply Kd.V_alloc | apply Kd.V_drewN | apply Kd.V_drew)); exact HO644.out) (by first | exact Kd.N_base ho0 | exact Kd.R_base ho0 | exact Kd.R_base (Kd.S_R ho0)) hb); have n1_ := Aside0.mk (Kd.N_elder' (by (with_reducible repeat (first | apply Kd.N_alloc | apply Kd.N_drewN | apply Kd.N_drew)); exact HO649.out) (by first | exact Kd.N_base ho0 | exact Kd.R_base ho0 | exact Kd.R_base (Kd.S_R ho0)) hb); have n2_ := Aside0.mk (Kd.V_elder' (by (with_reducible repeat (first | apply Kd.V_alloc | apply Kd.V_drewN | apply Kd.V_drew)); exact HO652.out) (by first | exact Kd.N_base ho0 | exact Kd.R_base ho0 | exact Kd.R_base (Kd.S_R ho0)) hb); have n3_ := Aside0.mk (Kd.N_lower (Kd.N_mono (ok' := fun k_ => some k_ ≠ (v648 : Value).ownBlock) ho0 (fun k_ hk_ => (Kd.fresh' (Kd.N_lt (by (with_reducible repeat (first | apply Kd.N_alloc | apply Kd.N_drewN | apply Kd.N_drew)); exact HO649.out)) k_ hk_))) (below_size (by repeat (first | (with_reducible first | exact HB.out | apply below_alloc | apply pw_below_drewN | apply below_drew1) | exact HB.out)))); have n4_ := Aside0.mk (below_step (by repeat (first | (with_reducible first | exact HB.out | apply below_alloc | apply pw_below_drewN | apply below_drew1) | exact HB.out)) hb); clear HO644; clear HO649; clear HO652; clear HB; have HO644 := n0_; have HO649 := n1_; have HO652 := n2_; have HO656 := n3_; have HB := n4_; clear n0_ n1_ n2_ n3_ n4_; (try clear hb); (try clear hb2); (try clear hk); (try clear hi); (try clear ho0); obtain ⟨Ao25, co25, eo25⟩ := Kd.V_slice HO644.out; subst eo25; obtain ⟨Ao26, co26, eo26⟩ := Kd.N_slice HO649.out; subst eo26) | (go_at_call 31; (with_reducible refine (tenetref24_EqMonos.calls kj2 _ _ t642 _ _ t646 true _ ?side1 ?side2 ?side3 ?side4 A15.out).mono ?_); (case side1 => repeat (first | exact (Kd.V_reads' HO644.out).2.2 | (with_reducible refine Kd.C_alloc ?_ _) | (with_reducible refine Kd.C_drewN ?_ _) | (with_reducible refine Kd.C_drew ?_))); (case side2 => exact (Kd.V_reads' HO644.out).2.1); (case side3 => repeat (first | exact (Kd.N_reads' HO649.out).2.2 | (with_reducible refine Kd.C_alloc ?_ _) | (with_reducible refine Kd.C_drewN ?_ _) | (with_reducible refine Kd.C_drew ?_))); (case side4 => exact (Kd.N_reads' HO649.out).2.1); rintro e w' ⟨rfl, ⟨nd, rfl⟩⟩; obtain ⟨Ao27, co27, eo27⟩ := Kd.V_slice HO652.out; subst eo27; obtain ⟨Ao28, co28, eo28⟩ := Kd.N_slice HO656.out; subst eo28) | (go_at_call 31; (with_reducible refine (tenetref24_EqMonos.calls kj2 _ _ t650 _ _ t654 true _ ?side1 ?side2 ?side3 ?side4 A18.out).mono ?_); (case side1 => repeat (first | exact (Kd.V_reads' HO652.out).2.2 | (with_reducible refine Kd.C_alloc ?_ _) | (with_reducible refine Kd.C_drewN ?_ _) | (with_reducible refine Kd.C_drew ?_))); (case side2 => exact (Kd.V_reads' HO652.out).2.1); (case side3 => repeat (first | exact (Kd.N_reads' HO656.out).2.2 | (with_reducible refine Kd.C_alloc ?_ _) | (with_reducible refine Kd.C_drewN ?_ _) | (with_reducible refine Kd.C_drew ?_))); (case side4 => exact (Kd.N_reads' HO656.out).2.1); rintro e w' ⟨rfl, ⟨nd, rfl⟩⟩) | (go_at_call 13; (with_reducible refine (tenetlaw24_awake.calls  t660 _ A20.out).mono ?_); rintro e w29 ⟨rfl, hb⟩; have n0_ := Aside0.mk (Kd.V_below (by (with_reducible repeat (first | apply Kd.V_alloc | apply Kd.V_drewN | apply Kd.V_drew)); exact HO644.out) hb); have n1_ := Aside0.mk (Kd.N_below (by (with_reducible repeat (first | apply Kd.N_alloc | apply Kd.N_drewN | apply Kd.N_drew)); exact HO649.out) hb); have n2_ := Aside0.mk (Kd.V_below (by (with_reducible repeat (first | apply Kd.V_alloc | apply Kd.V_drewN | apply Kd.V_drew)); exact HO652.out) hb); have n3_ := Aside0.mk (Kd.N_below (by (with_reducible repeat (first | apply Kd.N_alloc | apply Kd.N_drewN | apply Kd.N_drew)); exact HO656.out) hb); have n4_ := Aside0.mk (below_step (by repeat (first | (with_reducible first | exact HB.out | apply below_alloc | apply pw_below_drewN | apply below_drew1) | exact HB.out)) hb); clear HO644; clear HO649; clear HO652; clear HO656; clear HB; have HO644 := n0_; have HO649 := n1_; have HO652 := n2_; have HO656 := n3_; have HB := n4_; clear n0_ n1_ n2_ n3_ n4_; (try clear hb); (try clear hb2); (try clear hk); (try clear hi)))
        go_ret
        exact ⟨by first | rfl | (simp [errW_none, errW_some] <;> rfl) | (simp [*, errW_none, errW_some] <;> rfl), by repeat (first | (with_reducible first | exact HB.out | apply below_alloc | apply pw_below_drewN | apply below_drew1) | exact HB.out)⟩
       ·replace c19 := Bool.eq_false_iff.mpr c19
        subst c19
        have H1 : (some false) = some r := by rw [if_neg (show ¬ (false = true) by decide)] at H; exact H
        clear H
        have H := H1
        clear H1
        obtain rfl := Option.some.inj H
        go_wp2_with (first | ((with_reducible refine gate_callee (f := 32) rfl ?_); refine goesL_ (some 23) rfl rfl Try.func32 (by kernel_rfl) rfl #[.slice A0 l0.length c0, .slice A1 l1.length c1] rfl (by (try simp only [List.map_toArray, List.map_cons, List.map_nil]); first | done | rfl | (simp only [List.length_drop, List.length_take]; rfl)) ?_; (with_reducible refine (ring_Add.calls _ _ l0 _ _ l1 t642 t645 _ ?side1 ?side2 ?side3 ?side4 A10.out).mono ?_); (case side1 => repeat (first | exact (Kd.C_below HR0.out HB.out) | (with_reducible refine Kd.C_alloc ?_ _) | (with_reducible refine Kd.C_drewN ?_ _) | (with_reducible refine Kd.C_drew ?_))); (case side2 => exact HC0.out); (case side3 => repeat (first | exact (Kd.C_below HR1.out HB.out) | (with_reducible refine Kd.C_alloc ?_ _) | (with_reducible refine Kd.C_drewN ?_ _) | (with_reducible refine Kd.C_drew ?_))); (case side4 => exact HC1.out); rintro e w30 ⟨v643, rfl, ho0, hb⟩; refine ⟨_, rfl, ?_⟩; have n0_ := Aside0.mk (Kd.V_lower (Kd.V_mono (ok' := fun k_ => True) ho0 (fun k_ hk_ => trivial)) (below_size (by repeat (first | (with_reducible first | exact HB.out | apply below_alloc | apply pw_below_drewN | apply below_drew1) | exact HB.out)))); have n1_ := Aside0.mk (below_step (by repeat (first | (with_reducible first | exact HB.out | apply below_alloc | apply pw_below_drewN | apply below_drew1) | exact HB.out)) hb); clear HB; have HO644 := n0_; have HB := n1_; clear n0_ n1_; (try clear hb); (try clear hb2); (try clear hk); (try clear hi); (try clear ho0)) | ((with_reducible refine gate_callee (f := 33) rfl ?_); refine goesL_ (some 29) rfl rfl Try.func33 (by kernel_rfl) rfl #[.slice A0 l0.length c0, .slice A1 l1.length c1] rfl (by (try simp only [List.map_toArray, List.map_cons, List.map_nil]); first | done | rfl | (simp only [List.length_drop, List.length_take]; rfl)) ?_; (with_reducible refine (tenetref24_Add.calls kj2 _ _ l0 _ _ l1 t646 t647 _ ?side1 ?side2 ?side3 ?side4 A11.out).mono ?_); (case side1 => repeat (first | exact (Kd.C_below HR0.out HB.out) | (with_reducible refine Kd.C_alloc ?_ _) | (with_reducible refine Kd.C_drewN ?_ _) | (with_reducible refine Kd.C_drew ?_))); (case side2 => exact HC0.out); (case side3 => repeat (first | exact (Kd.C_below HR1.out HB.out) | (with_reducible refine Kd.C_alloc ?_ _) | (with_reducible refine Kd.C_drewN ?_ _) | (with_reducible refine Kd.C_drew ?_))); (case side4 => exact HC1.out); rintro e w31 ⟨v648, rfl, ho0, hb⟩; refine ⟨_, rfl, ?_⟩; have n0_ := Aside0.mk (Kd.V_elder' (by (with_reducible repeat (first | apply Kd.V_alloc | apply Kd.V_drewN | apply Kd.V_drew)); exact HO644.out) (by first | exact Kd.N_base ho0 | exact Kd.R_base ho0 | exact Kd.R_base (Kd.S_R ho0)) hb); have n1_ := Aside0.mk (Kd.N_lower (Kd.N_mono (ok' := fun k_ => True) (Kd.S_N (Kd.S_bound ho0)) (fun k_ hk_ => trivial)) (below_size (by repeat (first | (with_reducible first | exact HB.out | apply below_alloc | apply pw_below_drewN | apply below_drew1) | exact HB.out)))); have n2_ := Aside0.mk (below_step (by repeat (first | (with_reducible first | exact HB.out | apply below_alloc | apply pw_below_drewN | apply below_drew1) | exact HB.out)) hb); clear HO644; clear HB; have HO644 := n0_; have HO649 := n1_; have HB := n2_; clear n0_ n1_ n2_; (try clear hb); (try clear hb2); (try clear hk); (try clear hi); (try clear ho0)) | ((with_reducible refine gate_callee (f := 34) rfl ?_); refine goesL_ (some 35) rfl rfl Try.func34 (by kernel_rfl) rfl #[.slice A0 l0.length c0, .slice A1 l1.length c1] rfl (by (try simp only [List.map_toArray, List.map_cons, List.map_nil]); first | done | rfl | (simp only [List.length_drop, List.length_take]; rfl)) ?_; (with_reducible refine (ring_Mul.calls _ _ l0 _ _ l1 t650 t653 _ ?side1 ?side2 ?side3 ?side4 A12.out).mono ?_); (case side1 => repeat (first | exact (Kd.C_below HR0.out HB.out) | (with_reducible refine Kd.C_alloc ?_ _) | (with_reducible refine Kd.C_drewN ?_ _) | (with_reducible refine Kd.C_drew ?_))); (case side2 => exact HC0.out); (case side3 => repeat (first | exact (Kd.C_below HR1.out HB.out) | (with_reducible refine Kd.C_alloc ?_ _) | (with_reducible refine Kd.C_drewN ?_ _) | (with_reducible refine Kd.C_drew ?_))); (case side4 => exact HC1.out); rintro e w32 ⟨v651, rfl, ho0, hb⟩; refine ⟨_, rfl, ?_⟩; have n0_ := Aside0.mk (Kd.V_below (by (with_reducible repeat (first | apply Kd.V_alloc | apply Kd.V_drewN | apply Kd.V_drew)); exact HO644.out) hb); have n1_ := Aside0.mk (Kd.N_below (by (with_reducible repeat (first | apply Kd.N_alloc | apply Kd.N_drewN | apply Kd.N_drew)); exact HO649.out) hb); have n2_ := Aside0.mk (Kd.V_lower (Kd.V_mono (ok' := fun k_ => some k_ ≠ (v648 : Value).ownBlock) ho0 (fun k_ hk_ => (Kd.fresh' (Kd.N_lt (by (with_reducible repeat (first | apply Kd.N_alloc | apply Kd.N_drewN | apply Kd.N_drew)); exact HO649.out)) k_ hk_))) (below_size (by repeat (first | (with_reducible first | exact HB.out | apply below_alloc | apply pw_below_drewN | apply below_drew1) | exact HB.out)))); have n3_ := Aside0.mk (below_step (by repeat (first | (with_reducible first | exact HB.out | apply below_alloc | apply pw_below_drewN | apply below_drew1) | exact HB.out)) hb); clear HO644; clear HO649; clear HB; have HO644 := n0_; have HO649 := n1_; have HO652 := n2_; have HB := n3_; clear n0_ n1_ n2_ n3_; (try clear hb); (try clear hb2); (try clear hk); (try clear hi); (try clear ho0)) | ((with_reducible refine gate_callee (f := 35) rfl ?_); refine goesL_ (some 41) rfl rfl Try.func35 (by kernel_rfl) rfl #[.slice A0 l0.length c0, .slice A1 l1.length c1] rfl (by (try simp only [List.map_toArray, List.map_cons, List.map_nil]); first | done | rfl | (simp only [List.length_drop, List.length_take]; rfl)) ?_; (with_reducible refine (tenetref24_Mul.calls kj2 _ _ l0 _ _ l1 t654 t657 _ ?side1 ?side2 ?side3 ?side4 A13.out).mono ?_); (case side1 => repeat (first | exact (Kd.C_below HR0.out HB.out) | (with_reducible refine Kd.C_alloc ?_ _) | (with_reducible refine Kd.C_drewN ?_ _) | (with_reducible refine Kd.C_drew ?_))); (case side2 => exact HC0.out); (case side3 => repeat (first | exact (Kd.C_below HR1.out HB.out) | (with_reducible refine Kd.C_alloc ?_ _) | (with_reducible refine Kd.C_drewN ?_ _) | (with_reducible refine Kd.C_drew ?_))); (case side4 => exact HC1.out); rintro e w33 ⟨v655, rfl, ho0, hb⟩; refine ⟨_, rfl, ?_⟩; have n0_ := Aside0.mk (Kd.V_elder' (by (with_reducible repeat (first | apply Kd.V_alloc | apply Kd.V_drewN | apply Kd.V_drew)); exact HO644.out) (by first | exact Kd.N_base ho0 | exact Kd.R_base ho0 | exact Kd.R_base (Kd.S_R ho0)) hb); have n1_ := Aside0.mk (Kd.N_elder' (by (with_reducible repeat (first | apply Kd.N_alloc | apply Kd.N_drewN | apply Kd.N_drew)); exact HO649.out) (by first | exact Kd.N_base ho0 | exact Kd.R_base ho0 | exact Kd.R_base (Kd.S_R ho0)) hb); have n2_ := Aside0.mk (Kd.V_elder' (by (with_reducible repeat (first | apply Kd.V_alloc | apply Kd.V_drewN | apply Kd.V_drew)); exact HO652.out) (by first | exact Kd.N_base ho0 | exact Kd.R_base ho0 | exact Kd.R_base (Kd.S_R ho0)) hb); have n3_ := Aside0.mk (Kd.N_lower (Kd.N_mono (ok' := fun k_ => some k_ ≠ (v648 : Value).ownBlock) ho0 (fun k_ hk_ => (Kd.fresh' (Kd.N_lt (by (with_reducible repeat (first | apply Kd.N_alloc | apply Kd.N_drewN | apply Kd.N_drew)); exact HO649.out)) k_ hk_))) (below_size (by repeat (first | (with_reducible first | exact HB.out | apply below_alloc | apply pw_below_drewN | apply below_drew1) | exact HB.out)))); have n4_ := Aside0.mk (below_step (by repeat (first | (with_reducible first | exact HB.out | apply below_alloc | apply pw_below_drewN | apply below_drew1) | exact HB.out)) hb); clear HO644; clear HO649; clear HO652; clear HB; have HO644 := n0_; have HO649 := n1_; have HO652 := n2_; have HO656 := n3_; have HB := n4_; clear n0_ n1_ n2_ n3_ n4_; (try clear hb); (try clear hb2); (try clear hk); (try clear hi); (try clear ho0); obtain ⟨Ao34, co34, eo34⟩ := Kd.V_slice HO644.out; subst eo34; obtain ⟨Ao35, co35, eo35⟩ := Kd.N_slice HO649.out; subst eo35) | (go_at_call 31; (with_reducible refine (tenetref24_EqMonos.calls kj2 _ _ t642 _ _ t646 true _ ?side1 ?side2 ?side3 ?side4 A15.out).mono ?_); (case side1 => repeat (first | exact (Kd.V_reads' HO644.out).2.2 | (with_reducible refine Kd.C_alloc ?_ _) | (with_reducible refine Kd.C_drewN ?_ _) | (with_reducible refine Kd.C_drew ?_))); (case side2 => exact (Kd.V_reads' HO644.out).2.1); (case side3 => repeat (first | exact (Kd.N_reads' HO649.out).2.2 | (with_reducible refine Kd.C_alloc ?_ _) | (with_reducible refine Kd.C_drewN ?_ _) | (with_reducible refine Kd.C_drew ?_))); (case side4 => exact (Kd.N_reads' HO649.out).2.1); rintro e w' ⟨rfl, ⟨nd, rfl⟩⟩; obtain ⟨Ao36, co36, eo36⟩ := Kd.V_slice HO652.out; subst eo36; obtain ⟨Ao37, co37, eo37⟩ := Kd.N_slice HO656.out; subst eo37) | (go_at_call 31; (with_reducible refine (tenetref24_EqMonos.calls kj2 _ _ t650 _ _ t654 false _ ?side1 ?side2 ?side3 ?side4 A18.out).mono ?_); (case side1 => repeat (first | exact (Kd.V_reads' HO652.out).2.2 | (with_reducible refine Kd.C_alloc ?_ _) | (with_reducible refine Kd.C_drewN ?_ _) | (with_reducible refine Kd.C_drew ?_))); (case side2 => exact (Kd.V_reads' HO652.out).2.1); (case side3 => repeat (first | exact (Kd.N_reads' HO656.out).2.2 | (with_reducible refine Kd.C_alloc ?_ _) | (with_reducible refine Kd.C_drewN ?_ _) | (with_reducible refine Kd.C_drew ?_))); (case side4 => exact (Kd.N_reads' HO656.out).2.1); rintro e w' ⟨rfl, ⟨nd, rfl⟩⟩))
        go_ret
        exact ⟨by first | rfl | (simp [errW_none, errW_some] <;> rfl) | (simp [*, errW_none, errW_some] <;> rfl), by repeat (first | (with_reducible first | exact HB.out | apply below_alloc | apply pw_below_drewN | apply below_drew1) | exact HB.out)⟩
      ·rw [if_neg c17] at H
       have c17b0 : (t653 == t657) = false := beq_eq_false_iff_ne.mpr c17
       have c17b1 : (t653 != t657) = true := bne_iff_ne.mpr c17
       obtain rfl := Option.some.inj H
       go_wp2_with (first | ((with_reducible refine gate_callee (f := 32) rfl ?_); refine goesL_ (some 23) rfl rfl Try.func32 (by kernel_rfl) rfl #[.slice A0 l0.length c0, .slice A1 l1.length c1] rfl (by (try simp only [List.map_toArray, List.map_cons, List.map_nil]); first | done | rfl | (simp only [List.length_drop, List.length_take]; rfl)) ?_; (with_reducible refine (ring_Add.calls _ _ l0 _ _ l1 t642 t645 _ ?side1 ?side2 ?side3 ?side4 A10.out).mono ?_); (case side1 => repeat (first | exact (Kd.C_below HR0.out HB.out) | (with_reducible refine Kd.C_alloc ?_ _) | (with_reducible refine Kd.C_drewN ?_ _) | (with_reducible refine Kd.C_drew ?_))); (case side2 => exact HC0.out); (case side3 => repeat (first | exact (Kd.C_below HR1.out HB.out) | (with_reducible refine Kd.C_alloc ?_ _) | (with_reducible refine Kd.C_drewN ?_ _) | (with_reducible refine Kd.C_drew ?_))); (case side4 => exact HC1.out); rintro e w38 ⟨v643, rfl, ho0, hb⟩; refine ⟨_, rfl, ?_⟩; have n0_ := Aside0.mk (Kd.V_lower (Kd.V_mono (ok' := fun k_ => True) ho0 (fun k_ hk_ => trivial)) (below_size (by repeat (first | (with_reducible first | exact HB.out | apply below_alloc | apply pw_below_drewN | apply below_drew1) | exact HB.out)))); have n1_ := Aside0.mk (below_step (by repeat (first | (with_reducible first | exact HB.out | apply below_alloc | apply pw_below_drewN | apply below_drew1) | exact HB.out)) hb); clear HB; have HO644 := n0_; have HB := n1_; clear n0_ n1_; (try clear hb); (try clear hb2); (try clear hk); (try clear hi); (try clear ho0)) | ((with_reducible refine gate_callee (f := 33) rfl ?_); refine goesL_ (some 29) rfl rfl Try.func33 (by kernel_rfl) rfl #[.slice A0 l0.length c0, .slice A1 l1.length c1] rfl (by (try simp only [List.map_toArray, List.map_cons, List.map_nil]); first | done | rfl | (simp only [List.length_drop, List.length_take]; rfl)) ?_; (with_reducible refine (tenetref24_Add.calls kj2 _ _ l0 _ _ l1 t646 t647 _ ?side1 ?side2 ?side3 ?side4 A11.out).mono ?_); (case side1 => repeat (first | exact (Kd.C_below HR0.out HB.out) | (with_reducible refine Kd.C_alloc ?_ _) | (with_reducible refine Kd.C_drewN ?_ _) | (with_reducible refine Kd.C_drew ?_))); (case side2 => exact HC0.out); (case side3 => repeat (first | exact (Kd.C_below HR1.out HB.out) | (with_reducible refine Kd.C_alloc ?_ _) | (with_reducible refine Kd.C_drewN ?_ _) | (with_reducible refine Kd.C_drew ?_))); (case side4 => exact HC1.out); rintro e w39 ⟨v648, rfl, ho0, hb⟩; refine ⟨_, rfl, ?_⟩; have n0_ := Aside0.mk (Kd.V_elder' (by (with_reducible repeat (first | apply Kd.V_alloc | apply Kd.V_drewN | apply Kd.V_drew)); exact HO644.out) (by first | exact Kd.N_base ho0 | exact Kd.R_base ho0 | exact Kd.R_base (Kd.S_R ho0)) hb); have n1_ := Aside0.mk (Kd.N_lower (Kd.N_mono (ok' := fun k_ => True) (Kd.S_N (Kd.S_bound ho0)) (fun k_ hk_ => trivial)) (below_size (by repeat (first | (with_reducible first | exact HB.out | apply below_alloc | apply pw_below_drewN | apply below_drew1) | exact HB.out)))); have n2_ := Aside0.mk (below_step (by repeat (first | (with_reducible first | exact HB.out | apply below_alloc | apply pw_below_drewN | apply below_drew1) | exact HB.out)) hb); clear HO644; clear HB; have HO644 := n0_; have HO649 := n1_; have HB := n2_; clear n0_ n1_ n2_; (try clear hb); (try clear hb2); (try clear hk); (try clear hi); (try clear ho0)) | ((with_reducible refine gate_callee (f := 34) rfl ?_); refine goesL_ (some 35) rfl rfl Try.func34 (by kernel_rfl) rfl #[.slice A0 l0.length c0, .slice A1 l1.length c1] rfl (by (try simp only [List.map_toArray, List.map_cons, List.map_nil]); first | done | rfl | (simp only [List.length_drop, List.length_take]; rfl)) ?_; (with_reducible refine (ring_Mul.calls _ _ l0 _ _ l1 t650 t653 _ ?side1 ?side2 ?side3 ?side4 A12.out).mono ?_); (case side1 => repeat (first | exact (Kd.C_below HR0.out HB.out) | (with_reducible refine Kd.C_alloc ?_ _) | (with_reducible refine Kd.C_drewN ?_ _) | (with_reducible refine Kd.C_drew ?_))); (case side2 => exact HC0.out); (case side3 => repeat (first | exact (Kd.C_below HR1.out HB.out) | (with_reducible refine Kd.C_alloc ?_ _) | (with_reducible refine Kd.C_drewN ?_ _) | (with_reducible refine Kd.C_drew ?_))); (case side4 => exact HC1.out); rintro e w40 ⟨v651, rfl, ho0, hb⟩; refine ⟨_, rfl, ?_⟩; have n0_ := Aside0.mk (Kd.V_below (by (with_reducible repeat (first | apply Kd.V_alloc | apply Kd.V_drewN | apply Kd.V_drew)); exact HO644.out) hb); have n1_ := Aside0.mk (Kd.N_below (by (with_reducible repeat (first | apply Kd.N_alloc | apply Kd.N_drewN | apply Kd.N_drew)); exact HO649.out) hb); have n2_ := Aside0.mk (Kd.V_lower (Kd.V_mono (ok' := fun k_ => some k_ ≠ (v648 : Value).ownBlock) ho0 (fun k_ hk_ => (Kd.fresh' (Kd.N_lt (by (with_reducible repeat (first | apply Kd.N_alloc | apply Kd.N_drewN | apply Kd.N_drew)); exact HO649.out)) k_ hk_))) (below_size (by repeat (first | (with_reducible first | exact HB.out | apply below_alloc | apply pw_below_drewN | apply below_drew1) | exact HB.out)))); have n3_ := Aside0.mk (below_step (by repeat (first | (with_reducible first | exact HB.out | apply below_alloc | apply pw_below_drewN | apply below_drew1) | exact HB.out)) hb); clear HO644; clear HO649; clear HB; have HO644 := n0_; have HO649 := n1_; have HO652 := n2_; have HB := n3_; clear n0_ n1_ n2_ n3_; (try clear hb); (try clear hb2); (try clear hk); (try clear hi); (try clear ho0)) | ((with_reducible refine gate_callee (f := 35) rfl ?_); refine goesL_ (some 41) rfl rfl Try.func35 (by kernel_rfl) rfl #[.slice A0 l0.length c0, .slice A1 l1.length c1] rfl (by (try simp only [List.map_toArray, List.map_cons, List.map_nil]); first | done | rfl | (simp only [List.length_drop, List.length_take]; rfl)) ?_; (with_reducible refine (tenetref24_Mul.calls kj2 _ _ l0 _ _ l1 t654 t657 _ ?side1 ?side2 ?side3 ?side4 A13.out).mono ?_); (case side1 => repeat (first | exact (Kd.C_below HR0.out HB.out) | (with_reducible refine Kd.C_alloc ?_ _) | (with_reducible refine Kd.C_drewN ?_ _) | (with_reducible refine Kd.C_drew ?_))); (case side2 => exact HC0.out); (case side3 => repeat (first | exact (Kd.C_below HR1.out HB.out) | (with_reducible refine Kd.C_alloc ?_ _) | (with_reducible refine Kd.C_drewN ?_ _) | (with_reducible refine Kd.C_drew ?_))); (case side4 => exact HC1.out); rintro e w41 ⟨v655, rfl, ho0, hb⟩; refine ⟨_, rfl, ?_⟩; have n0_ := Aside0.mk (Kd.V_elder' (by (with_reducible repeat (first | apply Kd.V_alloc | apply Kd.V_drewN | apply Kd.V_drew)); exact HO644.out) (by first | exact Kd.N_base ho0 | exact Kd.R_base ho0 | exact Kd.R_base (Kd.S_R ho0)) hb); have n1_ := Aside0.mk (Kd.N_elder' (by (with_reducible repeat (first | apply Kd.N_alloc | apply Kd.N_drewN | apply Kd.N_drew)); exact HO649.out) (by first | exact Kd.N_base ho0 | exact Kd.R_base ho0 | exact Kd.R_base (Kd.S_R ho0)) hb); have n2_ := Aside0.mk (Kd.V_elder' (by (with_reducible repeat (first | apply Kd.V_alloc | apply Kd.V_drewN | apply Kd.V_drew)); exact HO652.out) (by first | exact Kd.N_base ho0 | exact Kd.R_base ho0 | exact Kd.R_base (Kd.S_R ho0)) hb); have n3_ := Aside0.mk (Kd.N_lower (Kd.N_mono (ok' := fun k_ => some k_ ≠ (v648 : Value).ownBlock) ho0 (fun k_ hk_ => (Kd.fresh' (Kd.N_lt (by (with_reducible repeat (first | apply Kd.N_alloc | apply Kd.N_drewN | apply Kd.N_drew)); exact HO649.out)) k_ hk_))) (below_size (by repeat (first | (with_reducible first | exact HB.out | apply below_alloc | apply pw_below_drewN | apply below_drew1) | exact HB.out)))); have n4_ := Aside0.mk (below_step (by repeat (first | (with_reducible first | exact HB.out | apply below_alloc | apply pw_below_drewN | apply below_drew1) | exact HB.out)) hb); clear HO644; clear HO649; clear HO652; clear HB; have HO644 := n0_; have HO649 := n1_; have HO652 := n2_; have HO656 := n3_; have HB := n4_; clear n0_ n1_ n2_ n3_ n4_; (try clear hb); (try clear hb2); (try clear hk); (try clear hi); (try clear ho0); obtain ⟨Ao42, co42, eo42⟩ := Kd.V_slice HO644.out; subst eo42; obtain ⟨Ao43, co43, eo43⟩ := Kd.N_slice HO649.out; subst eo43) | (go_at_call 31; (with_reducible refine (tenetref24_EqMonos.calls kj2 _ _ t642 _ _ t646 true _ ?side1 ?side2 ?side3 ?side4 A15.out).mono ?_); (case side1 => repeat (first | exact (Kd.V_reads' HO644.out).2.2 | (with_reducible refine Kd.C_alloc ?_ _) | (with_reducible refine Kd.C_drewN ?_ _) | (with_reducible refine Kd.C_drew ?_))); (case side2 => exact (Kd.V_reads' HO644.out).2.1); (case side3 => repeat (first | exact (Kd.N_reads' HO649.out).2.2 | (with_reducible refine Kd.C_alloc ?_ _) | (with_reducible refine Kd.C_drewN ?_ _) | (with_reducible refine Kd.C_drew ?_))); (case side4 => exact (Kd.N_reads' HO649.out).2.1); rintro e w' ⟨rfl, ⟨nd, rfl⟩⟩))
       go_ret
       exact ⟨by first | rfl | (simp [errW_none, errW_some] <;> rfl) | (simp [*, errW_none, errW_some] <;> rfl), by repeat (first | (with_reducible first | exact HB.out | apply below_alloc | apply pw_below_drewN | apply below_drew1) | exact HB.out)⟩
     ·replace c16 := Bool.eq_false_iff.mpr c16
      subst c16
      have H1 : (some false) = some r := by rw [if_neg (show ¬ (false = true) by decide)] at H; exact H
      clear H
      have H := H1
      clear H1
      obtain rfl := Option.some.inj H
      go_wp2_with (first | ((with_reducible refine gate_callee (f := 32) rfl ?_); refine goesL_ (some 23) rfl rfl Try.func32 (by kernel_rfl) rfl #[.slice A0 l0.length c0, .slice A1 l1.length c1] rfl (by (try simp only [List.map_toArray, List.map_cons, List.map_nil]); first | done | rfl | (simp only [List.length_drop, List.length_take]; rfl)) ?_; (with_reducible refine (ring_Add.calls _ _ l0 _ _ l1 t642 t645 _ ?side1 ?side2 ?side3 ?side4 A10.out).mono ?_); (case side1 => repeat (first | exact (Kd.C_below HR0.out HB.out) | (with_reducible refine Kd.C_alloc ?_ _) | (with_reducible refine Kd.C_drewN ?_ _) | (with_reducible refine Kd.C_drew ?_))); (case side2 => exact HC0.out); (case side3 => repeat (first | exact (Kd.C_below HR1.out HB.out) | (with_reducible refine Kd.C_alloc ?_ _) | (with_reducible refine Kd.C_drewN ?_ _) | (with_reducible refine Kd.C_drew ?_))); (case side4 => exact HC1.out); rintro e w44 ⟨v643, rfl, ho0, hb⟩; refine ⟨_, rfl, ?_⟩; have n0_ := Aside0.mk (Kd.V_lower (Kd.V_mono (ok' := fun k_ => True) ho0 (fun k_ hk_ => trivial)) (below_size (by repeat (first | (with_reducible first | exact HB.out | apply below_alloc | apply pw_below_drewN | apply below_drew1) | exact HB.out)))); have n1_ := Aside0.mk (below_step (by repeat (first | (with_reducible first | exact HB.out | apply below_alloc | apply pw_below_drewN | apply below_drew1) | exact HB.out)) hb); clear HB; have HO644 := n0_; have HB := n1_; clear n0_ n1_; (try clear hb); (try clear hb2); (try clear hk); (try clear hi); (try clear ho0)) | ((with_reducible refine gate_callee (f := 33) rfl ?_); refine goesL_ (some 29) rfl rfl Try.func33 (by kernel_rfl) rfl #[.slice A0 l0.length c0, .slice A1 l1.length c1] rfl (by (try simp only [List.map_toArray, List.map_cons, List.map_nil]); first | done | rfl | (simp only [List.length_drop, List.length_take]; rfl)) ?_; (with_reducible refine (tenetref24_Add.calls kj2 _ _ l0 _ _ l1 t646 t647 _ ?side1 ?side2 ?side3 ?side4 A11.out).mono ?_); (case side1 => repeat (first | exact (Kd.C_below HR0.out HB.out) | (with_reducible refine Kd.C_alloc ?_ _) | (with_reducible refine Kd.C_drewN ?_ _) | (with_reducible refine Kd.C_drew ?_))); (case side2 => exact HC0.out); (case side3 => repeat (first | exact (Kd.C_below HR1.out HB.out) | (with_reducible refine Kd.C_alloc ?_ _) | (with_reducible refine Kd.C_drewN ?_ _) | (with_reducible refine Kd.C_drew ?_))); (case side4 => exact HC1.out); rintro e w45 ⟨v648, rfl, ho0, hb⟩; refine ⟨_, rfl, ?_⟩; have n0_ := Aside0.mk (Kd.V_elder' (by (with_reducible repeat (first | apply Kd.V_alloc | apply Kd.V_drewN | apply Kd.V_drew)); exact HO644.out) (by first | exact Kd.N_base ho0 | exact Kd.R_base ho0 | exact Kd.R_base (Kd.S_R ho0)) hb); have n1_ := Aside0.mk (Kd.N_lower (Kd.N_mono (ok' := fun k_ => True) (Kd.S_N (Kd.S_bound ho0)) (fun k_ hk_ => trivial)) (below_size (by repeat (first | (with_reducible first | exact HB.out | apply below_alloc | apply pw_below_drewN | apply below_drew1) | exact HB.out)))); have n2_ := Aside0.mk (below_step (by repeat (first | (with_reducible first | exact HB.out | apply below_alloc | apply pw_below_drewN | apply below_drew1) | exact HB.out)) hb); clear HO644; clear HB; have HO644 := n0_; have HO649 := n1_; have HB := n2_; clear n0_ n1_ n2_; (try clear hb); (try clear hb2); (try clear hk); (try clear hi); (try clear ho0)) | ((with_reducible refine gate_callee (f := 34) rfl ?_); refine goesL_ (some 35) rfl rfl Try.func34 (by kernel_rfl) rfl #[.slice A0 l0.length c0, .slice A1 l1.length c1] rfl (by (try simp only [List.map_toArray, List.map_cons, List.map_nil]); first | done | rfl | (simp only [List.length_drop, List.length_take]; rfl)) ?_; (with_reducible refine (ring_Mul.calls _ _ l0 _ _ l1 t650 t653 _ ?side1 ?side2 ?side3 ?side4 A12.out).mono ?_); (case side1 => repeat (first | exact (Kd.C_below HR0.out HB.out) | (with_reducible refine Kd.C_alloc ?_ _) | (with_reducible refine Kd.C_drewN ?_ _) | (with_reducible refine Kd.C_drew ?_))); (case side2 => exact HC0.out); (case side3 => repeat (first | exact (Kd.C_below HR1.out HB.out) | (with_reducible refine Kd.C_alloc ?_ _) | (with_reducible refine Kd.C_drewN ?_ _) | (with_reducible refine Kd.C_drew ?_))); (case side4 => exact HC1.out); rintro e w46 ⟨v651, rfl, ho0, hb⟩; refine ⟨_, rfl, ?_⟩; have n0_ := Aside0.mk (Kd.V_below (by (with_reducible repeat (first | apply Kd.V_alloc | apply Kd.V_drewN | apply Kd.V_drew)); exact HO644.out) hb); have n1_ := Aside0.mk (Kd.N_below (by (with_reducible repeat (first | apply Kd.N_alloc | apply Kd.N_drewN | apply Kd.N_drew)); exact HO649.out) hb); have n2_ := Aside0.mk (Kd.V_lower (Kd.V_mono (ok' := fun k_ => some k_ ≠ (v648 : Value).ownBlock) ho0 (fun k_ hk_ => (Kd.fresh' (Kd.N_lt (by (with_reducible repeat (first | apply Kd.N_alloc | apply Kd.N_drewN | apply Kd.N_drew)); exact HO649.out)) k_ hk_))) (below_size (by repeat (first | (with_reducible first | exact HB.out | apply below_alloc | apply pw_below_drewN | apply below_drew1) | exact HB.out)))); have n3_ := Aside0.mk (below_step (by repeat (first | (with_reducible first | exact HB.out | apply below_alloc | apply pw_below_drewN | apply below_drew1) | exact HB.out)) hb); clear HO644; clear HO649; clear HB; have HO644 := n0_; have HO649 := n1_; have HO652 := n2_; have HB := n3_; clear n0_ n1_ n2_ n3_; (try clear hb); (try clear hb2); (try clear hk); (try clear hi); (try clear ho0)) | ((with_reducible refine gate_callee (f := 35) rfl ?_); refine goesL_ (some 41) rfl rfl Try.func35 (by kernel_rfl) rfl #[.slice A0 l0.length c0, .slice A1 l1.length c1] rfl (by (try simp only [List.map_toArray, List.map_cons, List.map_nil]); first | done | rfl | (simp only [List.length_drop, List.length_take]; rfl)) ?_; (with_reducible refine (tenetref24_Mul.calls kj2 _ _ l0 _ _ l1 t654 t657 _ ?side1 ?side2 ?side3 ?side4 A13.out).mono ?_); (case side1 => repeat (first | exact (Kd.C_below HR0.out HB.out) | (with_reducible refine Kd.C_alloc ?_ _) | (with_reducible refine Kd.C_drewN ?_ _) | (with_reducible refine Kd.C_drew ?_))); (case side2 => exact HC0.out); (case side3 => repeat (first | exact (Kd.C_below HR1.out HB.out) | (with_reducible refine Kd.C_alloc ?_ _) | (with_reducible refine Kd.C_drewN ?_ _) | (with_reducible refine Kd.C_drew ?_))); (case side4 => exact HC1.out); rintro e w47 ⟨v655, rfl, ho0, hb⟩; refine ⟨_, rfl, ?_⟩; have n0_ := Aside0.mk (Kd.V_elder' (by (with_reducible repeat (first | apply Kd.V_alloc | apply Kd.V_drewN | apply Kd.V_drew)); exact HO644.out) (by first | exact Kd.N_base ho0 | exact Kd.R_base ho0 | exact Kd.R_base (Kd.S_R ho0)) hb); have n1_ := Aside0.mk (Kd.N_elder' (by (with_reducible repeat (first | apply Kd.N_alloc | apply Kd.N_drewN | apply Kd.N_drew)); exact HO649.out) (by first | exact Kd.N_base ho0 | exact Kd.R_base ho0 | exact Kd.R_base (Kd.S_R ho0)) hb); have n2_ := Aside0.mk (Kd.V_elder' (by (with_reducible repeat (first | apply Kd.V_alloc | apply Kd.V_drewN | apply Kd.V_drew)); exact HO652.out) (by first | exact Kd.N_base ho0 | exact Kd.R_base ho0 | exact Kd.R_base (Kd.S_R ho0)) hb); have n3_ := Aside0.mk (Kd.N_lower (Kd.N_mono (ok' := fun k_ => some k_ ≠ (v648 : Value).ownBlock) ho0 (fun k_ hk_ => (Kd.fresh' (Kd.N_lt (by (with_reducible repeat (first | apply Kd.N_alloc | apply Kd.N_drewN | apply Kd.N_drew)); exact HO649.out)) k_ hk_))) (below_size (by repeat (first | (with_reducible first | exact HB.out | apply below_alloc | apply pw_below_drewN | apply below_drew1) | exact HB.out)))); have n4_ := Aside0.mk (below_step (by repeat (first | (with_reducible first | exact HB.out | apply below_alloc | apply pw_below_drewN | apply below_drew1) | exact HB.out)) hb); clear HO644; clear HO649; clear HO652; clear HB; have HO644 := n0_; have HO649 := n1_; have HO652 := n2_; have HO656 := n3_; have HB := n4_; clear n0_ n1_ n2_ n3_ n4_; (try clear hb); (try clear hb2); (try clear hk); (try clear hi); (try clear ho0); obtain ⟨Ao48, co48, eo48⟩ := Kd.V_slice HO644.out; subst eo48; obtain ⟨Ao49, co49, eo49⟩ := Kd.N_slice HO649.out; subst eo49) | (go_at_call 31; (with_reducible refine (tenetref24_EqMonos.calls kj2 _ _ t642 _ _ t646 false _ ?side1 ?side2 ?side3 ?side4 A15.out).mono ?_); (case side1 => repeat (first | exact (Kd.V_reads' HO644.out).2.2 | (with_reducible refine Kd.C_alloc ?_ _) | (with_reducible refine Kd.C_drewN ?_ _) | (with_reducible refine Kd.C_drew ?_))); (case side2 => exact (Kd.V_reads' HO644.out).2.1); (case side3 => repeat (first | exact (Kd.N_reads' HO649.out).2.2 | (with_reducible refine Kd.C_alloc ?_ _) | (with_reducible refine Kd.C_drewN ?_ _) | (with_reducible refine Kd.C_drew ?_))); (case side4 => exact (Kd.N_reads' HO649.out).2.1); rintro e w' ⟨rfl, ⟨nd, rfl⟩⟩))
      go_ret
      exact ⟨by first | rfl | (simp [errW_none, errW_some] <;> rfl) | (simp [*, errW_none, errW_some] <;> rfl), by repeat (first | (with_reducible first | exact HB.out | apply below_alloc | apply pw_below_drewN | apply below_drew1) | exact HB.out)⟩
    ·rw [if_neg c14] at H
     have c14b0 : (t645 == t647) = false := beq_eq_false_iff_ne.mpr c14
     have c14b1 : (t645 != t647) = true := bne_iff_ne.mpr c14
     obtain rfl := Option.some.inj H
     go_wp2_with (first | ((with_reducible refine gate_callee (f := 32) rfl ?_); refine goesL_ (some 23) rfl rfl Try.func32 (by kernel_rfl) rfl #[.slice A0 l0.length c0, .slice A1 l1.length c1] rfl (by (try simp only [List.map_toArray, List.map_cons, List.map_nil]); first | done | rfl | (simp only [List.length_drop, List.length_take]; rfl)) ?_; (with_reducible refine (ring_Add.calls _ _ l0 _ _ l1 t642 t645 _ ?side1 ?side2 ?side3 ?side4 A10.out).mono ?_); (case side1 => repeat (first | exact (Kd.C_below HR0.out HB.out) | (with_reducible refine Kd.C_alloc ?_ _) | (with_reducible refine Kd.C_drewN ?_ _) | (with_reducible refine Kd.C_drew ?_))); (case side2 => exact HC0.out); (case side3 => repeat (first | exact (Kd.C_below HR1.out HB.out) | (with_reducible refine Kd.C_alloc ?_ _) | (with_reducible refine Kd.C_drewN ?_ _) | (with_reducible refine Kd.C_drew ?_))); (case side4 => exact HC1.out); rintro e w50 ⟨v643, rfl, ho0, hb⟩; refine ⟨_, rfl, ?_⟩; have n0_ := Aside0.mk (Kd.V_lower (Kd.V_mono (ok' := fun k_ => True) ho0 (fun k_ hk_ => trivial)) (below_size (by repeat (first | (with_reducible first | exact HB.out | apply below_alloc | apply pw_below_drewN | apply below_drew1) | exact HB.out)))); have n1_ := Aside0.mk (below_step (by repeat (first | (with_reducible first | exact HB.out | apply below_alloc | apply pw_below_drewN | apply below_drew1) | exact HB.out)) hb); clear HB; have HO644 := n0_; have HB := n1_; clear n0_ n1_; (try clear hb); (try clear hb2); (try clear hk); (try clear hi); (try clear ho0)) | ((with_reducible refine gate_callee (f := 33) rfl ?_); refine goesL_ (some 29) rfl rfl Try.func33 (by kernel_rfl) rfl #[.slice A0 l0.length c0, .slice A1 l1.length c1] rfl (by (try simp only [List.map_toArray, List.map_cons, List.map_nil]); first | done | rfl | (simp only [List.length_drop, List.length_take]; rfl)) ?_; (with_reducible refine (tenetref24_Add.calls kj2 _ _ l0 _ _ l1 t646 t647 _ ?side1 ?side2 ?side3 ?side4 A11.out).mono ?_); (case side1 => repeat (first | exact (Kd.C_below HR0.out HB.out) | (with_reducible refine Kd.C_alloc ?_ _) | (with_reducible refine Kd.C_drewN ?_ _) | (with_reducible refine Kd.C_drew ?_))); (case side2 => exact HC0.out); (case side3 => repeat (first | exact (Kd.C_below HR1.out HB.out) | (with_reducible refine Kd.C_alloc ?_ _) | (with_reducible refine Kd.C_drewN ?_ _) | (with_reducible refine Kd.C_drew ?_))); (case side4 => exact HC1.out); rintro e w51 ⟨v648, rfl, ho0, hb⟩; refine ⟨_, rfl, ?_⟩; have n0_ := Aside0.mk (Kd.V_elder' (by (with_reducible repeat (first | apply Kd.V_alloc | apply Kd.V_drewN | apply Kd.V_drew)); exact HO644.out) (by first | exact Kd.N_base ho0 | exact Kd.R_base ho0 | exact Kd.R_base (Kd.S_R ho0)) hb); have n1_ := Aside0.mk (Kd.N_lower (Kd.N_mono (ok' := fun k_ => True) (Kd.S_N (Kd.S_bound ho0)) (fun k_ hk_ => trivial)) (below_size (by repeat (first | (with_reducible first | exact HB.out | apply below_alloc | apply pw_below_drewN | apply below_drew1) | exact HB.out)))); have n2_ := Aside0.mk (below_step (by repeat (first | (with_reducible first | exact HB.out | apply below_alloc | apply pw_below_drewN | apply below_drew1) | exact HB.out)) hb); clear HO644; clear HB; have HO644 := n0_; have HO649 := n1_; have HB := n2_; clear n0_ n1_ n2_; (try clear hb); (try clear hb2); (try clear hk); (try clear hi); (try clear ho0)) | ((with_reducible refine gate_callee (f := 34) rfl ?_); refine goesL_ (some 35) rfl rfl Try.func34 (by kernel_rfl) rfl #[.slice A0 l0.length c0, .slice A1 l1.length c1] rfl (by (try simp only [List.map_toArray, List.map_cons, List.map_nil]); first | done | rfl | (simp only [List.length_drop, List.length_take]; rfl)) ?_; (with_reducible refine (ring_Mul.calls _ _ l0 _ _ l1 t650 t653 _ ?side1 ?side2 ?side3 ?side4 A12.out).mono ?_); (case side1 => repeat (first | exact (Kd.C_below HR0.out HB.out) | (with_reducible refine Kd.C_alloc ?_ _) | (with_reducible refine Kd.C_drewN ?_ _) | (with_reducible refine Kd.C_drew ?_))); (case side2 => exact HC0.out); (case side3 => repeat (first | exact (Kd.C_below HR1.out HB.out) | (with_reducible refine Kd.C_alloc ?_ _) | (with_reducible refine Kd.C_drewN ?_ _) | (with_reducible refine Kd.C_drew ?_))); (case side4 => exact HC1.out); rintro e w52 ⟨v651, rfl, ho0, hb⟩; refine ⟨_, rfl, ?_⟩; have n0_ := Aside0.mk (Kd.V_below (by (with_reducible repeat (first | apply Kd.V_alloc | apply Kd.V_drewN | apply Kd.V_drew)); exact HO644.out) hb); have n1_ := Aside0.mk (Kd.N_below (by (with_reducible repeat (first | apply Kd.N_alloc | apply Kd.N_drewN | apply Kd.N_drew)); exact HO649.out) hb); have n2_ := Aside0.mk (Kd.V_lower (Kd.V_mono (ok' := fun k_ => some k_ ≠ (v648 : Value).ownBlock) ho0 (fun k_ hk_ => (Kd.fresh' (Kd.N_lt (by (with_reducible repeat (first | apply Kd.N_alloc | apply Kd.N_drewN | apply Kd.N_drew)); exact HO649.out)) k_ hk_))) (below_size (by repeat (first | (with_reducible first | exact HB.out | apply below_alloc | apply pw_below_drewN | apply below_drew1) | exact HB.out)))); have n3_ := Aside0.mk (below_step (by repeat (first | (with_reducible first | exact HB.out | apply below_alloc | apply pw_below_drewN | apply below_drew1) | exact HB.out)) hb); clear HO644; clear HO649; clear HB; have HO644 := n0_; have HO649 := n1_; have HO652 := n2_; have HB := n3_; clear n0_ n1_ n2_ n3_; (try clear hb); (try clear hb2); (try clear hk); (try clear hi); (try clear ho0)) | ((with_reducible refine gate_callee (f := 35) rfl ?_); refine goesL_ (some 41) rfl rfl Try.func35 (by kernel_rfl) rfl #[.slice A0 l0.length c0, .slice A1 l1.length c1] rfl (by (try simp only [List.map_toArray, List.map_cons, List.map_nil]); first | done | rfl | (simp only [List.length_drop, List.length_take]; rfl)) ?_; (with_reducible refine (tenetref24_Mul.calls kj2 _ _ l0 _ _ l1 t654 t657 _ ?side1 ?side2 ?side3 ?side4 A13.out).mono ?_); (case side1 => repeat (first | exact (Kd.C_below HR0.out HB.out) | (with_reducible refine Kd.C_alloc ?_ _) | (with_reducible refine Kd.C_drewN ?_ _) | (with_reducible refine Kd.C_drew ?_))); (case side2 => exact HC0.out); (case side3 => repeat (first | exact (Kd.C_below HR1.out HB.out) | (with_reducible refine Kd.C_alloc ?_ _) | (with_reducible refine Kd.C_drewN ?_ _) | (with_reducible refine Kd.C_drew ?_))); (case side4 => exact HC1.out); rintro e w53 ⟨v655, rfl, ho0, hb⟩; refine ⟨_, rfl, ?_⟩; have n0_ := Aside0.mk (Kd.V_elder' (by (with_reducible repeat (first | apply Kd.V_alloc | apply Kd.V_drewN | apply Kd.V_drew)); exact HO644.out) (by first | exact Kd.N_base ho0 | exact Kd.R_base ho0 | exact Kd.R_base (Kd.S_R ho0)) hb); have n1_ := Aside0.mk (Kd.N_elder' (by (with_reducible repeat (first | apply Kd.N_alloc | apply Kd.N_drewN | apply Kd.N_drew)); exact HO649.out) (by first | exact Kd.N_base ho0 | exact Kd.R_base ho0 | exact Kd.R_base (Kd.S_R ho0)) hb); have n2_ := Aside0.mk (Kd.V_elder' (by (with_reducible repeat (first | apply Kd.V_alloc | apply Kd.V_drewN | apply Kd.V_drew)); exact HO652.out) (by first | exact Kd.N_base ho0 | exact Kd.R_base ho0 | exact Kd.R_base (Kd.S_R ho0)) hb); have n3_ := Aside0.mk (Kd.N_lower (Kd.N_mono (ok' := fun k_ => some k_ ≠ (v648 : Value).ownBlock) ho0 (fun k_ hk_ => (Kd.fresh' (Kd.N_lt (by (with_reducible repeat (first | apply Kd.N_alloc | apply Kd.N_drewN | apply Kd.N_drew)); exact HO649.out)) k_ hk_))) (below_size (by repeat (first | (with_reducible first | exact HB.out | apply below_alloc | apply pw_below_drewN | apply below_drew1) | exact HB.out)))); have n4_ := Aside0.mk (below_step (by repeat (first | (with_reducible first | exact HB.out | apply below_alloc | apply pw_below_drewN | apply below_drew1) | exact HB.out)) hb); clear HO644; clear HO649; clear HO652; clear HB; have HO644 := n0_; have HO649 := n1_; have HO652 := n2_; have HO656 := n3_; have HB := n4_; clear n0_ n1_ n2_ n3_ n4_; (try clear hb); (try clear hb2); (try clear hk); (try clear hi); (try clear ho0)))
     go_ret
     exact ⟨by first | rfl | (simp [errW_none, errW_some] <;> rfl) | (simp [*, errW_none, errW_some] <;> rfl), by repeat (first | (with_reducible first | exact HB.out | apply below_alloc | apply pw_below_drewN | apply below_drew1) | exact HB.out)⟩
end Go.Proofs.Ythkclagcbjnckaa.Pa

namespace Go.Proofs.Ythkclagcbjnckaa.Pa
open Go.RowKit Go.Proofs.YthkclagcbjnckaaW.PrintWords Go.Proofs.YthkclagcbjnckaaW.PrintLast Go.Proofs.YthkclagcbjnckaaW.PrintMore
set_option linter.unusedVariables false
theorem bigList_evA (l : List S60) : ∃ b, Ev (fun k => tenetlaw24_bigList.f k l) b := by
  by_cases hl : l.length ≤ 300
  case neg =>
    refine ⟨true, Ev.congr (f := fun _ => some true) (fun k => ?_) (Ev.now _)⟩
    simp only [tenetlaw24_bigList.f]
    rw [if_pos (by omega)]
  have loop : ∀ (r pre : List S60), l = pre ++ r → ∃ b, Ev (fun k => tenetlaw24_bigList.l0 k l (pre.length : Int)) b := by
    intro r
    induction r with
    | nil =>
      intro pre hp
      rw [List.append_nil] at hp
      refine ⟨false, Ev.step (f := fun _ => some false) (fun k => ?_) (Ev.now _)⟩
      simp only [tenetlaw24_bigList.l0]
      rw [if_neg (by rw [hp]; omega)]
    | cons m r ih =>
      intro pre hp
      have hlt : pre.length < l.length := by rw [hp]; simp
      obtain ⟨b, hb⟩ := ih (pre ++ [m]) (by rw [hp]; simp)
      rw [List.length_append, List.length_singleton] at hb
      by_cases h : ((rd_T60 l (pre.length : Int)).f1.length : Int) > 20
      · refine ⟨true, Ev.step (f := fun _ => some true) (fun k => ?_) (Ev.now _)⟩
        simp only [tenetlaw24_bigList.l0]
        rw [if_pos (by omega), if_pos (by omega), if_pos h]
      · refine ⟨b, Ev.step (fun k => ?_) hb⟩
        simp only [tenetlaw24_bigList.l0]
        rw [if_pos (by omega), if_pos (by omega), if_neg h, wrap_succ _ (by omega)]
  obtain ⟨b, hb⟩ := loop l [] rfl
  refine ⟨b, Ev.congr (fun k => ?_) hb⟩
  simp only [tenetlaw24_bigList.f]
  rw [if_neg (by omega)]; rfl
theorem RingAdds_j0 (a b : List S60) (t : Bool) : Ev (fun k => tenetlaw24_RingAdds.j0 k a b t) true := by
  cases t with
  | true => exact Ev.step (f := fun _ => some true) (fun k => by rw [tenetlaw24_RingAdds.j0, if_pos rfl]; rfl) (Ev.now _)
  | false =>
    obtain ⟨l, er, h1, ha⟩ := refAdd_ev a b
    obtain ⟨l', er', h2, hm⟩ := refMul_ev a b
    have e1 := AddA_of ha
    have e2 := MulA_of hm
    have s1 := ha.small (fun h1 h2 h3 => Add_okE h1 h2 h3)
    have s2 := hm.small (fun h1 h2 h3 => Mul_okE h1 h2 h3)
    refine Ev.step (f := fun k => (tenetref24_Add.f k a b).bind fun bt646 => ((tenetref24_Mul.f k a b).bind fun bt654 => (if er = bt646.2 then ((tenetref24_EqMonos.f k l bt646.1).bind fun t658 => (if t658 = true then (if er' = bt654.2 then ((tenetref24_EqMonos.f k l' bt654.1).bind fun t659 => (if t659 = true then (some true) else (some false))) else (some false)) else (some false))) else (some false)))) (fun k => ?_) ?_
    · rw [tenetlaw24_RingAdds.j0, if_neg (by simp)]
      simp only [ring_Add.f, ring_Mul.f, e1, e2, Option.bind_some, tenetlaw24_awake.f]
    · refine Ev.bind h1 (Ev.bind h2 ?_)
      simp only [if_true]
      refine Ev.bind (eqMonos_ev l l s1.1 s1.2) ?_
      simp only [decide_true, if_true]
      refine Ev.bind (eqMonos_ev l' l' s2.1 s2.2) ?_
      simp only [decide_true, if_true]
      exact Ev.now _
theorem RingAdds_pure (a b : List S60) : ∃ k, tenetlaw24_RingAdds.f k a b = some true := by
  obtain ⟨ba, ha⟩ := bigList_evA a
  obtain ⟨bb, hb⟩ := bigList_evA b
  refine Ev.rounds (g := fun k => tenetlaw24_RingAdds.f k a b) ?_
  refine Ev.congr (f := fun k => (tenetlaw24_bigList.f k a).bind fun t639 => (if t639 = true then (tenetlaw24_RingAdds.j0 k a b true) else ((tenetlaw24_bigList.f k b).bind fun t640 => (tenetlaw24_RingAdds.j0 k a b t640)))) (fun k => rfl) ?_
  refine Ev.bind ha ?_
  cases ba with
  | true => simp only [if_true]; exact RingAdds_j0 a b true
  | false =>
    simp only [Bool.false_eq_true, if_false]
    exact Ev.bind hb (RingAdds_j0 a b bb)
theorem RingAdds_walk (a b : List S60) (A1 A2 : Option Addr) (c1 c2 : Nat) (w : World) (hr1 : k60.C w A1 a.length a) (hc1 : a.length ≤ c1) (hr2 : k60.C w A2 b.length b) (hc2 : b.length ≤ c2) :
    Calls Try.prog 8 #[.slice A1 a.length c1, .slice A2 b.length c2] w fun e w' => e = .returned (.bool true) ∧ Below w.heap.size w w' := by
  obtain ⟨k, hk⟩ := RingAdds_pure a b
  exact tenetlaw24_RingAdds.calls k A1 c1 a A2 c2 b true w hr1 hc1 hr2 hc2 hk
end Go.Proofs.Ythkclagcbjnckaa.Pa

namespace Go.Proofs.Ythkclagcbjnckaa.Pa
open Go.RowKit Go.ChangeShapes Go.WideShapes Go.Deep Go.Proofs.YthkclagcbjnckaaW.PrintWords Go.Proofs.YthkclagcbjnckaaW.PrintLast Go.Proofs.YthkclagcbjnckaaW.PrintMore
section
variable {H : Type} {enc : TypeId × Value → H} {w : World} {base : Nat} {spare : Nat → Bool} {held : Bool}
theorem cells3 : Try.prog.cellsOf 3 = 1 := by kernel_rfl
theorem cells60 : Try.prog.cellsOf 60 = 2 := by kernel_rfl
theorem cells33 : Try.prog.cellsOf 33 = 1 := by kernel_rfl
theorem open33 {fuel : Nat} {cs : List Value} {x : DataW H × List MemPlace} (h : DataW.trod enc Try.prog w base spare held fuel 33 cs = some x) :
    ∃ A c, ∃ l : List Int, cs = [.slice A l.length c] ∧ l.length ≤ c ∧ (Kd.int .i64).C w A l.length l ∧ ∀ n ∈ l, (Lit.int .i64 n).wf = true := by
  rcases open_ints Try.underlying33 Try.underlying3 cells3 h with ⟨rfl, _⟩ | ⟨a, len, cap, zs, rfl, _, hl, hm, hz, _, hc, hw⟩
  · exact ⟨none, 0, [], rfl, Nat.le_refl _, ⟨rfl, by simp, fun h => absurd h (Nat.lt_irrefl _)⟩, by simp⟩
  · have hlen : len ≤ zs.length := by rw [hz]; split <;> omega
    have hl2 : (zs.take len).length = len := by rw [List.length_take]; omega
    refine ⟨some a, cap, zs.take len, by rw [hl2], by omega, ⟨rfl, by have : maxLen ≤ 9223372036854775807 := (by decide); omega, fun _ => ⟨a, rfl, fun j p hj => ⟨[.int .i64 p], rfl, rfl, fun i u hu => ?_⟩⟩⟩, fun n hn => hw n (List.mem_of_mem_take hn)⟩
    have hj1 : j < len := by rw [← hl2]; exact (List.getElem?_eq_some_iff.1 hj).1
    cases i with
    | succ i => simp at hu
    | zero =>
      simp only [List.getElem?_cons_zero, Option.some.injEq] at hu
      subst hu
      have h1 := hc j (by omega)
      rw [List.getElem?_take_of_lt hj1] at hj
      rw [List.getD_eq_getElem?_getD, hj] at h1
      show w.cell? (a.add (j * 1 + 0)) = _
      rw [Nat.mul_one, Nat.add_zero]
      exact h1
theorem open22 {fuel : Nat} {cs : List Value} {x : DataW H × List MemPlace} (h : DataW.trod enc Try.prog w base spare held fuel 22 cs = some x) :
    ∃ A c, ∃ l : List S60, cs = [.slice A l.length c] ∧ l.length ≤ c ∧ k60.C w A l.length l ∧ ∀ m ∈ l, (Lit.int .i64 m.f0).wf = true ∧ ∀ n ∈ m.f1, (Lit.int .i64 n).wf = true := by
  rcases open_slice_pairs Try.underlying22 Try.underlying60 cells60 rfl rfl cells3 cells33 h with ⟨rfl, _⟩ | ⟨a, len, cap, m, n, V0, V1, D0, D1, P0, P1, rfl, _, hl, hm, hmm, _, hc⟩
  · exact ⟨none, 0, [], rfl, Nat.le_refl _, ⟨rfl, by simp, fun h => absurd h (Nat.lt_irrefl _)⟩, by simp⟩
  · have hlm : len ≤ m := by rw [hmm]; split <;> omega
    have each : ∀ i, i < len → ∃ q : S60, k60.K w q [V0 i, V1 i] ∧ (Lit.int .i64 q.f0).wf = true ∧ ∀ n ∈ q.f1, (Lit.int .i64 n).wf = true := by
      intro i hi
      obtain ⟨_, _, t0, t1⟩ := hc i (by omega)
      obtain ⟨z, hz, _, hw⟩ := DataW.trod_int Try.underlying3 t0
      obtain ⟨A, c, l, hl1, hl2, hl3, hl4⟩ := open33 t1
      injection hz with hz _
      injection hl1 with hl1 _
      rw [hz, hl1]
      exact ⟨⟨z, l⟩, k60_mk w ⟨z, l⟩ hl2 hl3, hw, hl4⟩
    haveI : Inhabited S60 := ⟨z60⟩
    obtain ⟨q, hq⟩ := choose_lt each
    have hl2 : ((List.range len).map q).length = len := by simp
    refine ⟨some a, cap, (List.range len).map q, by rw [hl2], by omega, ⟨rfl, by have : maxLen ≤ 9223372036854775807 := (by decide); omega, fun _ => ⟨a, rfl, fun j p hj => ?_⟩⟩, fun z hz => ?_⟩
    · have hj1 : j < len := by rw [← hl2]; exact (List.getElem?_eq_some_iff.1 hj).1
      rw [List.getElem?_map, List.getElem?_range hj1] at hj
      injection hj with hj
      subst hj
      obtain ⟨c0, c1, _, _⟩ := hc j (by omega)
      refine ⟨[V0 j, V1 j], rfl, (hq j hj1).1, fun i u hu => ?_⟩
      match i, hu with
      | 0, hu => injection hu with hu; subst hu; exact c0
      | 1, hu => injection hu with hu; subst hu; exact c1
    · obtain ⟨i, hi, rfl⟩ := List.mem_map.1 hz
      exact (hq i (List.mem_range.1 hi)).2
end
end Go.Proofs.Ythkclagcbjnckaa.Pa

namespace Go.Proofs.Ythkclagcbjnckaa.Pa
open Go.RowKit Go.ChangeShapes Go.WideShapes Go.Deep Go.Proofs.YthkclagcbjnckaaW.PrintWords Go.Proofs.YthkclagcbjnckaaW.PrintLast Go.Proofs.YthkclagcbjnckaaW.PrintMore
set_option linter.unusedVariables false
section
variable {H : Type} {enc : TypeId × Value → H} {w : World} {base : Nat} {spare : Nat → Bool} {held : Bool}
theorem cells25 : Try.prog.cellsOf 25 = 1 := by kernel_rfl
end
end Go.Proofs.Ythkclagcbjnckaa.Pa

