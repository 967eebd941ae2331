import Derived.Laws.Cover3
import Derived.Test.YthkclagcbjnckaaJA1
set_option linter.unusedVariables false
set_option linter.unusedSimpArgs false

namespace Go.Proofs.Ythkclagcbjnckaa.Pa
open Go.RowKit Go.Proofs.YthkclagcbjnckaaW.PrintWords Go.Proofs.YthkclagcbjnckaaW.PrintLast Go.Proofs.YthkclagcbjnckaaW.PrintMore
attribute [local go_sem] max2_int min2_int max_two min_two max_three min_three max_four min_four
set_option linter.unusedVariables false
set_option linter.unusedSimpArgs false
mutual
def tenetref24_Is.l0 : Nat → List (S60) → Int → Option (Bool)
 | 0, _, _ => none
 | k + 1, x0, x3 => if x3 < (x0.length : Int) then (if 0 ≤ x3 then (if ((rd_T60 x0 x3).f0) < 1 then (tenetref24_Is.j1 k x0 x3 true) else (if ((rd_T60 x0 x3).f0) > 1000000000000000 then (tenetref24_Is.j1 k x0 x3 true) else (tenetref24_Is.j1 k x0 x3 ((((rd_T60 x0 x3).f1).length : Int) != 8)))) else (none)) else (some true)
def tenetref24_Is.j1 : Nat → List (S60) → Int → Bool → Option (Bool)
 | 0, _, _, _ => none
 | k + 1, x0, x3, x36 => if x36 = true then (some false) else (tenetref24_Is.l1 k x0 x3 0)
def tenetref24_Is.l1 : Nat → List (S60) → Int → Int → Option (Bool)
 | 0, _, _, _ => none
 | k + 1, x0, x3, x4 => if x4 < 8 then (if 0 ≤ x3 then (if x3 < (x0.length : Int) then (if 0 ≤ x4 then (if x4 < (((rd_T60 x0 x3).f1).length : Int) then (if (rd ((rd_T60 x0 x3).f1) x4) < 0 then (some false) else (if (rd ((rd_T60 x0 x3).f1) x4) > 60 then (some false) else (tenetref24_Is.l1 k x0 x3 (wrap64 (x4 + 1))))) else (none)) else (none)) else (none)) else (none)) else (if x3 > 0 then (if 0 ≤ (wrap64 (x3 - 1)) then (if (wrap64 (x3 - 1)) < (x0.length : Int) then (if 0 ≤ x3 then (if x3 < (x0.length : Int) then ((tenetref24_less.f k ((rd_T60 x0 (wrap64 (x3 - 1))).f1) ((rd_T60 x0 x3).f1)).bind fun t240 => (if t240 = true then (tenetref24_Is.l0 k x0 (wrap64 (x3 + 1))) else (some false))) else (none)) else (none)) else (none)) else (none)) else (tenetref24_Is.l0 k x0 (wrap64 (x3 + 1))))
end
def tenetref24_Is.f (k : Nat) (l0 : List (S60)) : Option (Bool) := if (l0.length : Int) > 200 then (some false) else (tenetref24_Is.l0 k l0 0)
set_option maxHeartbeats 8000000 in
set_option maxRecDepth 100000 in
theorem tenetref24_Is.calls (k : Nat) (A0 : Option Addr) (c0 : Nat) (l0 : List (S60)) (r : Bool) (w : World) (hr0 : Kd.C k60 w A0 l0.length l0) (hc0 : l0.length ≤ c0) (h : tenetref24_Is.f k l0 = some r) :
  Calls Try.prog 49 #[.slice A0 l0.length c0] w fun e w' => e = .returned (.bool r) ∧ Drawn0 w w' := by
 have HR0 := Aside0.mk hr0
 have HC0 := Aside0.mk hc0
 clear hr0 hc0
 have H : (if (l0.length : Int) > 200 then (some false) else (tenetref24_Is.l0 k l0 0)) = some r := h
 clear h
 by_cases c2 : (l0.length : Int) > 200
 ·rw [if_pos c2] at H
  have c2b0 : decide (200 < (l0.length : Int)) = true := decide_eq_true c2
  have c2b1 : decide (200 < l0.length) = true := decide_eq_true (by omega)
  clear c2
  obtain rfl := Option.some.inj H
  go_enter Try.func49, Try.ntmps49
  go_wp2
  repeat (go_quiet (fail); try go_wp2)
  go_ret
  exact ⟨by first | rfl | (simp; done) | (simp [*]; done), by repeat (first | exact Drawn0.refl _ | apply Drawn0.step)⟩
 ·rw [if_neg c2] at H
  have c2b0 : decide (200 < (l0.length : Int)) = false := decide_eq_false c2
  have c2b1 : decide (200 < l0.length) = false := decide_eq_false (by omega)
  clear c2
  have H' := Aside0.mk H
  clear H
  go_enter Try.func49, Try.ntmps49
  go_wp2
  repeat (go_quiet (fail); try go_wp2)
  go_loopg [3] k (fun kq v3 w' => ∃ (x3_1 : Int), v3 = .int .i64 x3_1 ∧ Aside0 (tenetref24_Is.l0 kq l0 x3_1 = some r) ∧ Aside0 (kq ≤ k) ∧ Drawn0 w w')
  case atStart => exact ⟨(0), (by first | rfl | (simp; done) | (simp [*]; done)), H', ⟨Nat.le_refl _⟩, by repeat (first | exact Drawn0.refl _ | apply Drawn0.step)⟩
  case round =>
   clear H'
   try clear c2
   try clear c2b0
   try clear c2b1
   try clear p2
   obtain ⟨x3_1, rfl, HA, HK1, ⟨m1, rfl⟩⟩ := hrel
   cases gk with
   | zero => exact absurd HA.out (by simp [tenetref24_Is.l0])
   | succ k1 =>
    have H := HA.out
    clear HA
    simp only [tenetref24_Is.l0] at H
    by_cases c3 : x3_1 < (l0.length : Int)
    ·rw [if_pos c3] at H
     have c3b0 : decide (x3_1 < (l0.length : Int)) = true := decide_eq_true c3
     clear c3
     have HC4 := Aside0.mk H
     clear H
     go_upto_region 6 with (fail)
     repeat (go_quiet (fail); go_upto_region 6 with (fail))
     go_cut [36] (fun v36 wc => ∃ (kq : Nat) (x36_3 : Bool), v36 = .bool x36_3 ∧ Aside0 (tenetref24_Is.j1 kq l0 x3_1 x36_3 = some r) ∧ Aside0 (kq ≤ k1) ∧ Drawn0 w wc)
     case first =>
      have H := HC4.out
      clear HC4
      by_cases c5 : 0 ≤ x3_1
      ·rw [if_pos c5] at H
       have c5b0 : decide (0 ≤ x3_1) = true := decide_eq_true c5
       clear c5
       (first | rw [c5b0] | (simp only [i64_w, i32_w]; rw [c5b0]) | skip)
       by_cases c6 : ((rd_T60 l0 x3_1).f0) < 1
       ·rw [if_pos c6] at H
        have c6b0 : decide (((rd_T60 l0 x3_1).f0) < 1) = true := decide_eq_true c6
        clear c6
        have H' := Aside0.mk H
        clear H
        have p231 : 0 ≤ (x3_1 : Int) := of_decide_eq_true (by first | (with_reducible assumption) | assumption)
        have q231 : x3_1 < (l0.length : Int) := of_decide_eq_true (by first | (with_reducible assumption) | assumption)
        obtain ⟨ad231, A231_1, c231_1, e231, hx231_0, hx231_1, hl231_1, hi231_1⟩ := at_T60 HR0.out x3_1 p231 q231
        cases e231
        have HR231_1 := Aside0.mk hi231_1
        have HC231_1 := Aside0.mk hl231_1
        clear hi231_1 hl231_1
        replace p231 := eq_true p231
        replace q231 := eq_true q231
        go_wp2
        repeat (go_quiet (fail); try go_wp2)
        go_meet
        case rel => exact ⟨_, (true), (by first | rfl | (simp; done) | (simp [*]; done)), H', ⟨by have := HK1.out; first | omega | exact Nat.le_refl _⟩, by repeat (first | exact Drawn0.refl _ | apply Drawn0.step)⟩
       ·rw [if_neg c6] at H
        have c6b0 : decide (((rd_T60 l0 x3_1).f0) < 1) = false := decide_eq_false c6
        clear c6
        by_cases c7 : ((rd_T60 l0 x3_1).f0) > 1000000000000000
        ·rw [if_pos c7] at H
         have c7b0 : decide (1000000000000000 < ((rd_T60 l0 x3_1).f0)) = true := decide_eq_true c7
         clear c7
         have H' := Aside0.mk H
         clear H
         have p231 : 0 ≤ (x3_1 : Int) := of_decide_eq_true (by first | (with_reducible assumption) | assumption)
         have q231 : x3_1 < (l0.length : Int) := of_decide_eq_true (by first | (with_reducible assumption) | assumption)
         obtain ⟨ad231, A231_1, c231_1, e231, hx231_0, hx231_1, hl231_1, hi231_1⟩ := at_T60 HR0.out x3_1 p231 q231
         cases e231
         have HR231_1 := Aside0.mk hi231_1
         have HC231_1 := Aside0.mk hl231_1
         clear hi231_1 hl231_1
         replace p231 := eq_true p231
         replace q231 := eq_true q231
         have p232 : 0 ≤ (x3_1 : Int) := of_decide_eq_true (by first | (with_reducible assumption) | assumption)
         have q232 : x3_1 < (l0.length : Int) := of_decide_eq_true (by first | (with_reducible assumption) | assumption)
         obtain ⟨ad232, A232_1, c232_1, e232, hx232_0, hx232_1, hl232_1, hi232_1⟩ := at_T60 HR0.out x3_1 p232 q232
         obtain rfl : ad231 = ad232 := (by injection e232)
         have HR232_1 := Aside0.mk hi232_1
         have HC232_1 := Aside0.mk hl232_1
         clear hi232_1 hl232_1
         replace p232 := eq_true p232
         replace q232 := eq_true q232
         have ea_ := Option.some.inj (hx231_1.symm.trans hx232_1)
         injection ea_ with ea_ en_ ec_
         subst ea_
         subst ec_
         clear en_
         go_wp2
         repeat (go_quiet (fail); try go_wp2)
         go_meet
         case rel => exact ⟨_, (true), (by first | rfl | (simp; done) | (simp [*]; done)), H', ⟨by have := HK1.out; first | omega | exact Nat.le_refl _⟩, by repeat (first | exact Drawn0.refl _ | apply Drawn0.step)⟩
        ·rw [if_neg c7] at H
         have c7b0 : decide (1000000000000000 < ((rd_T60 l0 x3_1).f0)) = false := decide_eq_false c7
         clear c7
         have H' := Aside0.mk H
         clear H
         have p231 : 0 ≤ (x3_1 : Int) := of_decide_eq_true (by first | (with_reducible assumption) | assumption)
         have q231 : x3_1 < (l0.length : Int) := of_decide_eq_true (by first | (with_reducible assumption) | assumption)
         obtain ⟨ad231, A231_1, c231_1, e231, hx231_0, hx231_1, hl231_1, hi231_1⟩ := at_T60 HR0.out x3_1 p231 q231
         cases e231
         have HR231_1 := Aside0.mk hi231_1
         have HC231_1 := Aside0.mk hl231_1
         clear hi231_1 hl231_1
         replace p231 := eq_true p231
         replace q231 := eq_true q231
         have p232 : 0 ≤ (x3_1 : Int) := of_decide_eq_true (by first | (with_reducible assumption) | assumption)
         have q232 : x3_1 < (l0.length : Int) := of_decide_eq_true (by first | (with_reducible assumption) | assumption)
         obtain ⟨ad232, A232_1, c232_1, e232, hx232_0, hx232_1, hl232_1, hi232_1⟩ := at_T60 HR0.out x3_1 p232 q232
         obtain rfl : ad231 = ad232 := (by injection e232)
         have HR232_1 := Aside0.mk hi232_1
         have HC232_1 := Aside0.mk hl232_1
         clear hi232_1 hl232_1
         replace p232 := eq_true p232
         replace q232 := eq_true q232
         have ea_ := Option.some.inj (hx231_1.symm.trans hx232_1)
         injection ea_ with ea_ en_ ec_
         subst ea_
         subst ec_
         clear en_
         have p233 : 0 ≤ (x3_1 : Int) := of_decide_eq_true (by first | (with_reducible assumption) | assumption)
         have q233 : x3_1 < (l0.length : Int) := of_decide_eq_true (by first | (with_reducible assumption) | assumption)
         obtain ⟨ad233, A233_1, c233_1, e233, hx233_0, hx233_1, hl233_1, hi233_1⟩ := at_T60 HR0.out x3_1 p233 q233
         obtain rfl : ad231 = ad233 := (by injection e233)
         have HR233_1 := Aside0.mk hi233_1
         have HC233_1 := Aside0.mk hl233_1
         clear hi233_1 hl233_1
         replace p233 := eq_true p233
         replace q233 := eq_true q233
         have ea_ := Option.some.inj (hx231_1.symm.trans hx233_1)
         injection ea_ with ea_ en_ ec_
         subst ea_
         subst ec_
         clear en_
         go_wp2
         repeat (go_quiet (fail); try go_wp2)
         go_meet
         case rel => exact ⟨_, (((((rd_T60 l0 x3_1).f1).length : Int) != 8)), (by first | rfl | (simp; done) | (simp [*]; done)), H', ⟨by have := HK1.out; first | omega | exact Nat.le_refl _⟩, by repeat (first | exact Drawn0.refl _ | apply Drawn0.step)⟩
      ·rw [if_neg c5] at H
       exact absurd H (by simp)
     case rest =>
      clear HC4
      try clear c2
      try clear c2b0
      try clear c2b1
      try clear p2
      try clear q2
      try clear hx2
      try clear c3
      try clear c3b0
      try clear c4
      try clear c5
      try clear c5b0
      try clear c6
      try clear c6b0
      try clear c7
      try clear c7b0
      try clear hx231_0
      try clear hx231_1
      try clear hx232_0
      try clear hx232_1
      try clear hx233_0
      try clear hx233_1
      try clear p2
      try clear p231
      try clear p232
      try clear p233
      try clear q231
      try clear q232
      try clear q233
      obtain ⟨kq, x36_3, rfl, HA, HJ3, ⟨mc3, rfl⟩⟩ := hcut
      cases kq with
      | zero => exact absurd HA.out (by simp [tenetref24_Is.j1])
      | succ kj3 =>
       have H := HA.out
       clear HA
       simp only [tenetref24_Is.j1] at H
       by_cases c8 : x36_3 = true
       ·subst c8
        have H1 : (some false) = some r := by rw [if_pos rfl] at H; exact H
        clear H
        have H := H1
        clear H1
        obtain rfl := Option.some.inj H
        go_wp2
        repeat (go_quiet (fail); try go_wp2)
        go_ret
        exact ⟨by first | rfl | (simp; done) | (simp [*]; done), by repeat (first | exact Drawn0.refl _ | apply Drawn0.step)⟩
       ·replace c8 := Bool.eq_false_iff.mpr c8
        subst c8
        have H1 : (tenetref24_Is.l1 kj3 l0 x3_1 0) = some r := by rw [if_neg (show ¬ (false = true) by decide)] at H; exact H
        clear H
        have H := H1
        clear H1
        have H' := Aside0.mk H
        clear H
        go_wp2
        repeat (go_quiet (fail); try go_wp2)
        go_loopg [4] kj3 (fun kq v4 w' => ∃ (x4_3 : Int), v4 = .int .i64 x4_3 ∧ Aside0 (tenetref24_Is.l1 kq l0 x3_1 x4_3 = some r) ∧ Aside0 (kq ≤ kj3) ∧ Drawn0 w w')
        case atStart => exact ⟨(0), (by first | rfl | (simp; done) | (simp [*]; done)), H', ⟨Nat.le_refl _⟩, by repeat (first | exact Drawn0.refl _ | apply Drawn0.step)⟩
        case round =>
         clear H'
         try clear c2
         try clear c2b0
         try clear c2b1
         try clear p2
         try clear q2
         try clear hx2
         try clear c3
         try clear c3b0
         try clear c4
         try clear c5
         try clear c5b0
         try clear c6
         try clear c6b0
         try clear c7
         try clear c7b0
         try clear c8
         try clear hx231_0
         try clear hx231_1
         try clear hx232_0
         try clear hx232_1
         try clear hx233_0
         try clear hx233_1
         try clear p2
         try clear p231
         try clear p232
         try clear p233
         try clear q2
         try clear q231
         try clear q232
         try clear q233
         obtain ⟨x4_3, rfl, HA, HK3, ⟨m3, rfl⟩⟩ := hrel
         cases gk with
         | zero => exact absurd HA.out (by simp [tenetref24_Is.l1])
         | succ k3 =>
          have H := HA.out
          clear HA
          simp only [tenetref24_Is.l1] at H
          by_cases c9 : x4_3 < 8
          ·rw [if_pos c9] at H
           have c9b0 : decide (x4_3 < 8) = true := decide_eq_true c9
           clear c9
           by_cases c10 : 0 ≤ x3_1
           ·rw [if_pos c10] at H
            have c10b0 : decide (0 ≤ x3_1) = true := decide_eq_true c10
            clear c10
            by_cases c11 : x3_1 < (l0.length : Int)
            ·rw [if_pos c11] at H
             have c11b0 : decide (x3_1 < (l0.length : Int)) = true := decide_eq_true c11
             clear c11
             by_cases c12 : 0 ≤ x4_3
             ·rw [if_pos c12] at H
              have c12b0 : decide (0 ≤ x4_3) = true := decide_eq_true c12
              clear c12
              by_cases c13 : x4_3 < (((rd_T60 l0 x3_1).f1).length : Int)
              ·rw [if_pos c13] at H
               have c13b0 : decide (x4_3 < (((rd_T60 l0 x3_1).f1).length : Int)) = true := decide_eq_true c13
               clear c13
               by_cases c14 : (rd ((rd_T60 l0 x3_1).f1) x4_3) < 0
               ·rw [if_pos c14] at H
                have c14b0 : decide ((rd ((rd_T60 l0 x3_1).f1) x4_3) < 0) = true := decide_eq_true c14
                clear c14
                obtain rfl := Option.some.inj H
                have p234 : 0 ≤ (x3_1 : Int) := of_decide_eq_true (by first | (with_reducible assumption) | assumption)
                have q234 : x3_1 < (l0.length : Int) := of_decide_eq_true (by first | (with_reducible assumption) | assumption)
                obtain ⟨ad234, A234_1, c234_1, e234, hx234_0, hx234_1, hl234_1, hi234_1⟩ := at_T60 HR0.out x3_1 p234 q234
                cases e234
                have HR234_1 := Aside0.mk hi234_1
                have HC234_1 := Aside0.mk hl234_1
                clear hi234_1 hl234_1
                replace p234 := eq_true p234
                replace q234 := eq_true q234
                have p235 : 0 ≤ (x4_3 : Int) := of_decide_eq_true (by first | (with_reducible assumption) | assumption)
                have q235 : x4_3 < (((rd_T60 l0 x3_1).f1).length : Int) := of_decide_eq_true (by first | (with_reducible assumption) | assumption)
                obtain ⟨ad235, e235, hx235_0⟩ := Kd.at_int HR234_1.out x4_3 p235 q235
                cases e235
                replace p235 := eq_true p235
                replace q235 := eq_true q235
                go_wp2
                repeat (go_quiet (fail); try go_wp2)
                go_ret
                exact ⟨by first | rfl | (simp; done) | (simp [*]; done), by repeat (first | exact Drawn0.refl _ | apply Drawn0.step)⟩
               ·rw [if_neg c14] at H
                have c14b0 : decide ((rd ((rd_T60 l0 x3_1).f1) x4_3) < 0) = false := decide_eq_false c14
                clear c14
                by_cases c15 : (rd ((rd_T60 l0 x3_1).f1) x4_3) > 60
                ·rw [if_pos c15] at H
                 have c15b0 : decide (60 < (rd ((rd_T60 l0 x3_1).f1) x4_3)) = true := decide_eq_true c15
                 clear c15
                 obtain rfl := Option.some.inj H
                 have p234 : 0 ≤ (x3_1 : Int) := of_decide_eq_true (by first | (with_reducible assumption) | assumption)
                 have q234 : x3_1 < (l0.length : Int) := of_decide_eq_true (by first | (with_reducible assumption) | assumption)
                 obtain ⟨ad234, A234_1, c234_1, e234, hx234_0, hx234_1, hl234_1, hi234_1⟩ := at_T60 HR0.out x3_1 p234 q234
                 cases e234
                 have HR234_1 := Aside0.mk hi234_1
                 have HC234_1 := Aside0.mk hl234_1
                 clear hi234_1 hl234_1
                 replace p234 := eq_true p234
                 replace q234 := eq_true q234
                 have p235 : 0 ≤ (x4_3 : Int) := of_decide_eq_true (by first | (with_reducible assumption) | assumption)
                 have q235 : x4_3 < (((rd_T60 l0 x3_1).f1).length : Int) := of_decide_eq_true (by first | (with_reducible assumption) | assumption)
                 obtain ⟨ad235, e235, hx235_0⟩ := Kd.at_int HR234_1.out x4_3 p235 q235
                 cases e235
                 replace p235 := eq_true p235
                 replace q235 := eq_true q235
                 have p236 : 0 ≤ (x3_1 : Int) := of_decide_eq_true (by first | (with_reducible assumption) | assumption)
                 have q236 : x3_1 < (l0.length : Int) := of_decide_eq_true (by first | (with_reducible assumption) | assumption)
                 obtain ⟨ad236, A236_1, c236_1, e236, hx236_0, hx236_1, hl236_1, hi236_1⟩ := at_T60 HR0.out x3_1 p236 q236
                 obtain rfl : ad234 = ad236 := (by injection e236)
                 have HR236_1 := Aside0.mk hi236_1
                 have HC236_1 := Aside0.mk hl236_1
                 clear hi236_1 hl236_1
                 replace p236 := eq_true p236
                 replace q236 := eq_true q236
                 have ea_ := Option.some.inj (hx234_1.symm.trans hx236_1)
                 injection ea_ with ea_ en_ ec_
                 subst ea_
                 subst ec_
                 clear en_
                 have p237 : 0 ≤ (x4_3 : Int) := of_decide_eq_true (by first | (with_reducible assumption) | assumption)
                 have q237 : x4_3 < (((rd_T60 l0 x3_1).f1).length : Int) := of_decide_eq_true (by first | (with_reducible assumption) | assumption)
                 obtain ⟨ad237, e237, hx237_0⟩ := Kd.at_int HR236_1.out x4_3 p237 q237
                 cases e237
                 replace p237 := eq_true p237
                 replace q237 := eq_true q237
                 go_wp2
                 repeat (go_quiet (fail); try go_wp2)
                 go_ret
                 exact ⟨by first | rfl | (simp; done) | (simp [*]; done), by repeat (first | exact Drawn0.refl _ | apply Drawn0.step)⟩
                ·rw [if_neg c15] at H
                 have c15b0 : decide (60 < (rd ((rd_T60 l0 x3_1).f1) x4_3)) = false := decide_eq_false c15
                 clear c15
                 have H' := Aside0.mk H
                 clear H
                 have p234 : 0 ≤ (x3_1 : Int) := of_decide_eq_true (by first | (with_reducible assumption) | assumption)
                 have q234 : x3_1 < (l0.length : Int) := of_decide_eq_true (by first | (with_reducible assumption) | assumption)
                 obtain ⟨ad234, A234_1, c234_1, e234, hx234_0, hx234_1, hl234_1, hi234_1⟩ := at_T60 HR0.out x3_1 p234 q234
                 cases e234
                 have HR234_1 := Aside0.mk hi234_1
                 have HC234_1 := Aside0.mk hl234_1
                 clear hi234_1 hl234_1
                 replace p234 := eq_true p234
                 replace q234 := eq_true q234
                 have p235 : 0 ≤ (x4_3 : Int) := of_decide_eq_true (by first | (with_reducible assumption) | assumption)
                 have q235 : x4_3 < (((rd_T60 l0 x3_1).f1).length : Int) := of_decide_eq_true (by first | (with_reducible assumption) | assumption)
                 obtain ⟨ad235, e235, hx235_0⟩ := Kd.at_int HR234_1.out x4_3 p235 q235
                 cases e235
                 replace p235 := eq_true p235
                 replace q235 := eq_true q235
                 have p236 : 0 ≤ (x3_1 : Int) := of_decide_eq_true (by first | (with_reducible assumption) | assumption)
                 have q236 : x3_1 < (l0.length : Int) := of_decide_eq_true (by first | (with_reducible assumption) | assumption)
                 obtain ⟨ad236, A236_1, c236_1, e236, hx236_0, hx236_1, hl236_1, hi236_1⟩ := at_T60 HR0.out x3_1 p236 q236
                 obtain rfl : ad234 = ad236 := (by injection e236)
                 have HR236_1 := Aside0.mk hi236_1
                 have HC236_1 := Aside0.mk hl236_1
                 clear hi236_1 hl236_1
                 replace p236 := eq_true p236
                 replace q236 := eq_true q236
                 have ea_ := Option.some.inj (hx234_1.symm.trans hx236_1)
                 injection ea_ with ea_ en_ ec_
                 subst ea_
                 subst ec_
                 clear en_
                 have p237 : 0 ≤ (x4_3 : Int) := of_decide_eq_true (by first | (with_reducible assumption) | assumption)
                 have q237 : x4_3 < (((rd_T60 l0 x3_1).f1).length : Int) := of_decide_eq_true (by first | (with_reducible assumption) | assumption)
                 obtain ⟨ad237, e237, hx237_0⟩ := Kd.at_int HR236_1.out x4_3 p237 q237
                 cases e237
                 replace p237 := eq_true p237
                 replace q237 := eq_true q237
                 go_wp2
                 repeat (go_quiet (fail); try go_wp2)
                 go_roundg k3
                 case measure => have := HK1.out; have := HJ3.out; have := HK3.out; omega
                 case rel => exact ⟨(wrap64 (x4_3 + 1)), (by first | rfl | (simp; done) | (simp [*]; done)), H', ⟨by have := HK1.out; have := HJ3.out; have := HK3.out; omega⟩, by repeat (first | exact Drawn0.refl _ | apply Drawn0.step)⟩
              ·rw [if_neg c13] at H
               exact absurd H (by simp)
             ·rw [if_neg c12] at H
              exact absurd H (by simp)
            ·rw [if_neg c11] at H
             exact absurd H (by simp)
           ·rw [if_neg c10] at H
            exact absurd H (by simp)
          ·rw [if_neg c9] at H
           have c9b0 : decide (x4_3 < 8) = false := decide_eq_false c9
           clear c9
           by_cases c16 : x3_1 > 0
           ·rw [if_pos c16] at H
            have c16b0 : decide (0 < x3_1) = true := decide_eq_true c16
            clear c16
            obtain ⟨ji17, hji17⟩ : ∃ j_ : Int, (wrap64 (x3_1 - 1)) = j_ := ⟨_, rfl⟩
            replace H : (if 0 ≤ (ji17) then (if (ji17) < (l0.length : Int) then (if 0 ≤ x3_1 then (if x3_1 < (l0.length : Int) then ((tenetref24_less.f k3 ((rd_T60 l0 (ji17)).f1) ((rd_T60 l0 x3_1).f1)).bind fun t240 => (if t240 = true then (tenetref24_Is.l0 k3 l0 (wrap64 (x3_1 + 1))) else (some false))) else (none)) else (none)) else (none)) else (none)) = some r := by first | (rw [hji17] at H; exact H) | (simp only [hji17] at H ⊢; exact H)
            have hji17w : (IntKind.i64.wrap (x3_1 - 1)) = ji17 := (i64_w _).trans hji17
            by_cases c18 : 0 ≤ (ji17)
            ·rw [if_pos c18] at H
             have c18b0 : decide (0 ≤ (ji17)) = true := decide_eq_true c18
             clear c18
             by_cases c19 : (ji17) < (l0.length : Int)
             ·rw [if_pos c19] at H
              have c19b0 : decide ((ji17) < (l0.length : Int)) = true := decide_eq_true c19
              clear c19
              by_cases c20 : 0 ≤ x3_1
              ·rw [if_pos c20] at H
               have c20b0 : decide (0 ≤ x3_1) = true := decide_eq_true c20
               clear c20
               by_cases c21 : x3_1 < (l0.length : Int)
               ·rw [if_pos c21] at H
                have c21b0 : decide (x3_1 < (l0.length : Int)) = true := decide_eq_true c21
                clear c21
                replace H := Option.bind_eq_some_iff.mp H
                obtain ⟨t240, A220, H⟩ := H
                replace H : (if t240 = true then (tenetref24_Is.l0 k3 l0 (wrap64 (x3_1 + 1))) else (some false)) = some r := H
                have A22 := Aside0.mk A220
                clear A220
                by_cases c23 : t240 = true
                ·subst c23
                 have H1 : (tenetref24_Is.l0 k3 l0 (wrap64 (x3_1 + 1))) = some r := by rw [if_pos rfl] at H; exact H
                 clear H
                 have H := H1
                 clear H1
                 have H' := Aside0.mk H
                 clear H
                 have p238 : 0 ≤ ((ji17) : Int) := of_decide_eq_true (by first | (with_reducible assumption) | assumption)
                 have q238 : (ji17) < (l0.length : Int) := of_decide_eq_true (by first | (with_reducible assumption) | assumption)
                 obtain ⟨ad238, A238_1, c238_1, e238, hx238_0, hx238_1, hl238_1, hi238_1⟩ := at_T60 HR0.out (ji17) p238 q238
                 cases e238
                 have HR238_1 := Aside0.mk hi238_1
                 have HC238_1 := Aside0.mk hl238_1
                 clear hi238_1 hl238_1
                 replace p238 := eq_true p238
                 replace q238 := eq_true q238
                 have p239 : 0 ≤ (x3_1 : Int) := of_decide_eq_true (by first | (with_reducible assumption) | assumption)
                 have q239 : x3_1 < (l0.length : Int) := of_decide_eq_true (by first | (with_reducible assumption) | assumption)
                 obtain ⟨ad239, A239_1, c239_1, e239, hx239_0, hx239_1, hl239_1, hi239_1⟩ := at_T60 HR0.out x3_1 p239 q239
                 obtain rfl : ad238 = ad239 := (by injection e239)
                 have HR239_1 := Aside0.mk hi239_1
                 have HC239_1 := Aside0.mk hl239_1
                 clear hi239_1 hl239_1
                 replace p239 := eq_true p239
                 replace q239 := eq_true q239
                 go_wp2_with (first | (go_at_call 81; (with_reducible refine (tenetref24_less.calls k3 _ _ ((rd_T60 l0 (ji17)).f1) _ _ ((rd_T60 l0 x3_1).f1) true _ ?side1 ?side2 ?side3 ?side4 A22.out).mono ?_); (case side1 => repeat (first | exact HR238_1.out | (with_reducible refine Kd.C_alloc ?_ _) | (with_reducible refine Kd.C_drewN ?_ _) | (with_reducible refine Kd.C_drew ?_))); (case side2 => exact HC238_1.out); (case side3 => repeat (first | exact HR239_1.out | (with_reducible refine Kd.C_alloc ?_ _) | (with_reducible refine Kd.C_drewN ?_ _) | (with_reducible refine Kd.C_drew ?_))); (case side4 => exact HC239_1.out); rintro e w' ⟨rfl, ⟨nd, rfl⟩⟩; (try first | exact ⟨rfl, _, World.drewN_drewN _ _ _⟩ | exact ⟨rfl, _, Eq.trans (World.drewN_drewN _ _ _) (congrArg (World.drewN _) (Nat.add_assoc _ _ _))⟩)))
                 repeat (go_quiet (first | (go_at_call 81; (with_reducible refine (tenetref24_less.calls k3 _ _ ((rd_T60 l0 (ji17)).f1) _ _ ((rd_T60 l0 x3_1).f1) true _ ?side1 ?side2 ?side3 ?side4 A22.out).mono ?_); (case side1 => repeat (first | exact HR238_1.out | (with_reducible refine Kd.C_alloc ?_ _) | (with_reducible refine Kd.C_drewN ?_ _) | (with_reducible refine Kd.C_drew ?_))); (case side2 => exact HC238_1.out); (case side3 => repeat (first | exact HR239_1.out | (with_reducible refine Kd.C_alloc ?_ _) | (with_reducible refine Kd.C_drewN ?_ _) | (with_reducible refine Kd.C_drew ?_))); (case side4 => exact HC239_1.out); rintro e w' ⟨rfl, ⟨nd, rfl⟩⟩; (try first | exact ⟨rfl, _, World.drewN_drewN _ _ _⟩ | exact ⟨rfl, _, Eq.trans (World.drewN_drewN _ _ _) (congrArg (World.drewN _) (Nat.add_assoc _ _ _))⟩))); try go_wp2_with (first | (go_at_call 81; (with_reducible refine (tenetref24_less.calls k3 _ _ ((rd_T60 l0 (ji17)).f1) _ _ ((rd_T60 l0 x3_1).f1) true _ ?side1 ?side2 ?side3 ?side4 A22.out).mono ?_); (case side1 => repeat (first | exact HR238_1.out | (with_reducible refine Kd.C_alloc ?_ _) | (with_reducible refine Kd.C_drewN ?_ _) | (with_reducible refine Kd.C_drew ?_))); (case side2 => exact HC238_1.out); (case side3 => repeat (first | exact HR239_1.out | (with_reducible refine Kd.C_alloc ?_ _) | (with_reducible refine Kd.C_drewN ?_ _) | (with_reducible refine Kd.C_drew ?_))); (case side4 => exact HC239_1.out); rintro e w' ⟨rfl, ⟨nd, rfl⟩⟩; (try first | exact ⟨rfl, _, World.drewN_drewN _ _ _⟩ | exact ⟨rfl, _, Eq.trans (World.drewN_drewN _ _ _) (congrArg (World.drewN _) (Nat.add_assoc _ _ _))⟩))))
                 go_roundg k3
                 case measure => have := HK1.out; have := HJ3.out; have := HK3.out; omega
                 case rel => exact ⟨(wrap64 (x3_1 + 1)), (by first | rfl | (simp; done) | (simp [*]; done)), H', ⟨by have := HK1.out; have := HJ3.out; have := HK3.out; omega⟩, by repeat (first | exact Drawn0.refl _ | apply Drawn0.step)⟩
                ·replace c23 := Bool.eq_false_iff.mpr c23
                 subst c23
                 have H1 : (some false) = some r := by rw [if_neg (show ¬ (false = true) by decide)] at H; exact H
                 clear H
                 have H := H1
                 clear H1
                 obtain rfl := Option.some.inj H
                 have p238 : 0 ≤ ((ji17) : Int) := of_decide_eq_true (by first | (with_reducible assumption) | assumption)
                 have q238 : (ji17) < (l0.length : Int) := of_decide_eq_true (by first | (with_reducible assumption) | assumption)
                 obtain ⟨ad238, A238_1, c238_1, e238, hx238_0, hx238_1, hl238_1, hi238_1⟩ := at_T60 HR0.out (ji17) p238 q238
                 cases e238
                 have HR238_1 := Aside0.mk hi238_1
                 have HC238_1 := Aside0.mk hl238_1
                 clear hi238_1 hl238_1
                 replace p238 := eq_true p238
                 replace q238 := eq_true q238
                 have p239 : 0 ≤ (x3_1 : Int) := of_decide_eq_true (by first | (with_reducible assumption) | assumption)
                 have q239 : x3_1 < (l0.length : Int) := of_decide_eq_true (by first | (with_reducible assumption) | assumption)
                 obtain ⟨ad239, A239_1, c239_1, e239, hx239_0, hx239_1, hl239_1, hi239_1⟩ := at_T60 HR0.out x3_1 p239 q239
                 obtain rfl : ad238 = ad239 := (by injection e239)
                 have HR239_1 := Aside0.mk hi239_1
                 have HC239_1 := Aside0.mk hl239_1
                 clear hi239_1 hl239_1
                 replace p239 := eq_true p239
                 replace q239 := eq_true q239
                 go_wp2_with (first | (go_at_call 81; (with_reducible refine (tenetref24_less.calls k3 _ _ ((rd_T60 l0 (ji17)).f1) _ _ ((rd_T60 l0 x3_1).f1) false _ ?side1 ?side2 ?side3 ?side4 A22.out).mono ?_); (case side1 => repeat (first | exact HR238_1.out | (with_reducible refine Kd.C_alloc ?_ _) | (with_reducible refine Kd.C_drewN ?_ _) | (with_reducible refine Kd.C_drew ?_))); (case side2 => exact HC238_1.out); (case side3 => repeat (first | exact HR239_1.out | (with_reducible refine Kd.C_alloc ?_ _) | (with_reducible refine Kd.C_drewN ?_ _) | (with_reducible refine Kd.C_drew ?_))); (case side4 => exact HC239_1.out); rintro e w' ⟨rfl, ⟨nd, rfl⟩⟩; (try first | exact ⟨rfl, _, World.drewN_drewN _ _ _⟩ | exact ⟨rfl, _, Eq.trans (World.drewN_drewN _ _ _) (congrArg (World.drewN _) (Nat.add_assoc _ _ _))⟩)))
                 repeat (go_quiet (first | (go_at_call 81; (with_reducible refine (tenetref24_less.calls k3 _ _ ((rd_T60 l0 (ji17)).f1) _ _ ((rd_T60 l0 x3_1).f1) false _ ?side1 ?side2 ?side3 ?side4 A22.out).mono ?_); (case side1 => repeat (first | exact HR238_1.out | (with_reducible refine Kd.C_alloc ?_ _) | (with_reducible refine Kd.C_drewN ?_ _) | (with_reducible refine Kd.C_drew ?_))); (case side2 => exact HC238_1.out); (case side3 => repeat (first | exact HR239_1.out | (with_reducible refine Kd.C_alloc ?_ _) | (with_reducible refine Kd.C_drewN ?_ _) | (with_reducible refine Kd.C_drew ?_))); (case side4 => exact HC239_1.out); rintro e w' ⟨rfl, ⟨nd, rfl⟩⟩; (try first | exact ⟨rfl, _, World.drewN_drewN _ _ _⟩ | exact ⟨rfl, _, Eq.trans (World.drewN_drewN _ _ _) (congrArg (World.drewN _) (Nat.add_assoc _ _ _))⟩))); try go_wp2_with (first | (go_at_call 81; (with_reducible refine (tenetref24_less.calls k3 _ _ ((rd_T60 l0 (ji17)).f1) _ _ ((rd_T60 l0 x3_1).f1) false _ ?side1 ?side2 ?side3 ?side4 A22.out).mono ?_); (case side1 => repeat (first | exact HR238_1.out | (with_reducible refine Kd.C_alloc ?_ _) | (with_reducible refine Kd.C_drewN ?_ _) | (with_reducible refine Kd.C_drew ?_))); (case side2 => exact HC238_1.out); (case side3 => repeat (first | exact HR239_1.out | (with_reducible refine Kd.C_alloc ?_ _) | (with_reducible refine Kd.C_drewN ?_ _) | (with_reducible refine Kd.C_drew ?_))); (case side4 => exact HC239_1.out); rintro e w' ⟨rfl, ⟨nd, rfl⟩⟩; (try first | exact ⟨rfl, _, World.drewN_drewN _ _ _⟩ | exact ⟨rfl, _, Eq.trans (World.drewN_drewN _ _ _) (congrArg (World.drewN _) (Nat.add_assoc _ _ _))⟩))))
                 go_ret
                 exact ⟨by first | rfl | (simp; done) | (simp only [← hji17] <;> (first | rfl | simp)) | (simp [*]; done), by repeat (first | exact Drawn0.refl _ | apply Drawn0.step)⟩
               ·rw [if_neg c21] at H
                exact absurd H (by simp)
              ·rw [if_neg c20] at H
               exact absurd H (by simp)
             ·rw [if_neg c19] at H
              exact absurd H (by simp)
            ·rw [if_neg c18] at H
             exact absurd H (by simp)
           ·rw [if_neg c16] at H
            have c16b0 : decide (0 < x3_1) = false := decide_eq_false c16
            clear c16
            have H' := Aside0.mk H
            clear H
            go_wp2
            repeat (go_quiet (fail); try go_wp2)
            go_roundg k3
            case measure => have := HK1.out; have := HJ3.out; have := HK3.out; omega
            case rel => exact ⟨(wrap64 (x3_1 + 1)), (by first | rfl | (simp; done) | (simp [*]; done)), H', ⟨by have := HK1.out; have := HJ3.out; have := HK3.out; omega⟩, by repeat (first | exact Drawn0.refl _ | apply Drawn0.step)⟩
    ·rw [if_neg c3] at H
     have c3b0 : decide (x3_1 < (l0.length : Int)) = false := decide_eq_false c3
     clear c3
     obtain rfl := Option.some.inj H
     go_wp2
     repeat (go_quiet (fail); try go_wp2)
     go_ret
     exact ⟨by first | rfl | (simp; done) | (simp [*]; done), by repeat (first | exact Drawn0.refl _ | apply Drawn0.step)⟩
end Go.Proofs.Ythkclagcbjnckaa.Pa

namespace Go.Proofs.Ythkclagcbjnckaa.Pa
open Go.RowKit Go.Proofs.RawMap Go.Proofs.YthkclagcbjnckaaW.PrintWords Go.Proofs.YthkclagcbjnckaaW.PrintLast Go.Proofs.YthkclagcbjnckaaW.PrintMore
def lexC : List Int → List Int → Int
  | [], [] => 0
  | [], _ :: _ => -1
  | _ :: _, [] => 1
  | a :: x, b :: y => if a < b then -1 else if b < a then 1 else lexC x y
theorem rdI_mid (pre : List Int) (y : Int) (r : List Int) : rd (pre ++ y :: r) (pre.length : Int) = y := by simp [rd]
theorem rdM_mid (pre : List S60) (y : S60) (r : List S60) : rd_T60 (pre ++ y :: r) (pre.length : Int) = y := by simp [rd_T60]
theorem less_ev (a b : List Int) (ha : a.length = 8) (hb : b.length = 8) : Ev (fun k => tenetref24_less.f k a b) (decide (lexC a b > 0)) := by
  have loop : ∀ (ra pa rb pb : List Int), a = pa ++ ra → b = pb ++ rb → pa.length = pb.length → Ev (fun k => tenetref24_less.l0 k a b (pa.length : Int)) (decide (lexC ra rb > 0)) := by
    intro ra
    induction ra with
    | nil =>
      intro pa rb pb h1 h2 h3
      rw [List.append_nil] at h1
      have : rb = [] := by
        cases rb with
        | nil => rfl
        | cons y rb => rw [h2, List.length_append, List.length_cons, ← h3, ← h1] at hb; omega
      subst this
      refine Ev.step (f := fun _ => some false) (fun k => ?_) (Ev.now _)
      simp only [tenetref24_less.l0]
      rw [if_neg (by rw [← h1]; omega)]
    | cons x ra ih =>
      intro pa rb pb h1 h2 h3
      cases rb with
      | nil => rw [h2, List.append_nil] at hb; rw [h1, List.length_append, List.length_cons] at ha; omega
      | cons y rb =>
        have e1 : rd a (pa.length : Int) = x := by rw [h1]; exact rdI_mid _ _ _
        have e2 : rd b (pa.length : Int) = y := by rw [h2, h3]; exact rdI_mid _ _ _
        have hl1 : pa.length < a.length := by rw [h1]; simp
        have hl2 : pa.length < b.length := by rw [h2, h3]; simp
        by_cases hxy : x = y
        · have h := ih (pa ++ [x]) rb (pb ++ [y]) (by rw [h1]; simp) (by rw [h2]; simp) (by simp [h3])
          refine Ev.step (f := fun k => tenetref24_less.l0 k a b (wrap64 ((pa.length : Int) + 1))) (fun k => ?_) ?_
          · simp only [tenetref24_less.l0]
            rw [if_pos (by omega), if_pos (by omega), if_pos (by omega), if_pos (by omega), e1, e2, if_pos hxy]
          · rw [wrap_succ _ (by omega)]
            rw [List.length_append, List.length_singleton] at h
            have e : lexC (x :: ra) (y :: rb) = lexC ra rb := by rw [lexC, if_neg (by omega), if_neg (by omega)]
            rw [e]
            exact h
        · refine Ev.step (f := fun _ => some (decide (x > y))) (fun k => ?_) ?_
          · simp only [tenetref24_less.l0]
            rw [if_pos (by omega), if_pos (by omega), if_pos (by omega), if_pos (by omega), e1, e2, if_neg hxy]
          · have e : decide (lexC (x :: ra) (y :: rb) > 0) = decide (x > y) := by
              rw [lexC]
              by_cases h : x < y
              · rw [if_pos h, decide_eq_decide]; omega
              · rw [if_neg h, if_pos (by omega), decide_eq_decide]; omega
            rw [e]
            exact Ev.now _
  refine Ev.congr (fun k => ?_) (loop a [] b [] rfl rfl rfl)
  simp only [tenetref24_less.f]; rfl
theorem cmp_ev (a b : List Int) (hla : a.length ≤ 1000) : Ev (fun k => slices_Compare_int_int.f k a b) (lexC a b) := by
  have loop : ∀ (ra pa rb pb : List Int), a = pa ++ ra → b = pb ++ rb → pa.length = pb.length → Ev (fun k => slices_Compare_int_int.l0 k a b a (a.length : Int) (pa.length : Int)) (lexC ra rb) := by
    intro ra
    induction ra with
    | nil =>
      intro pa rb pb h1 h2 h3
      rw [List.append_nil] at h1
      refine Ev.step (f := fun _ => some (lexC [] rb)) (fun k => ?_) (Ev.now _)
      simp only [slices_Compare_int_int.l0]
      rw [if_neg (by rw [← h1]; omega)]
      cases rb with
      | nil => rw [if_neg (by rw [h1, h2, List.append_nil, h3]; omega), lexC]
      | cons y rb => rw [if_pos (by rw [h1, h2, List.length_append, List.length_cons, h3]; omega), lexC]
    | cons x ra ih =>
      intro pa rb pb h1 h2 h3
      have hl1 : pa.length < a.length := by rw [h1]; simp
      have e1 : rd a (pa.length : Int) = x := by rw [h1]; exact rdI_mid _ _ _
      cases rb with
      | nil =>
        refine Ev.step (f := fun _ => some 1) (fun k => ?_) (by rw [lexC]; exact Ev.now _)
        simp only [slices_Compare_int_int.l0]
        rw [if_pos (by omega), if_pos (by omega), if_pos (by omega), if_pos (by rw [h2, List.append_nil, h3]; omega)]
      | cons y rb =>
        have hl2 : pa.length < b.length := by rw [h2, h3]; simp
        have e2 : rd b (pa.length : Int) = y := by rw [h2, h3]; exact rdI_mid _ _ _
        have h := ih (pa ++ [x]) rb (pb ++ [y]) (by rw [h1]; simp) (by rw [h2]; simp) (by simp [h3])
        rw [List.length_append, List.length_singleton] at h
        refine Ev.step (f := fun k => if x < y then some (-1) else if x > y then some 1 else slices_Compare_int_int.l0 k a b a (a.length : Int) (wrap64 ((pa.length : Int) + 1))) (fun k => ?_) ?_
        · simp only [slices_Compare_int_int.l0]
          rw [if_pos (by omega), if_pos (by omega), if_pos (by omega), if_neg (by omega), if_pos (by omega), e1, e2]
          simp only [cmp_Compare_int.f, cmp_isNaN_int.f, Option.bind_some, bne_self_eq_false, Bool.false_eq_true, if_false]
          by_cases h1 : x < y
          · simp [h1]
          · by_cases h2 : x > y <;> simp [h1, h2]
        · rw [wrap_succ _ (by omega), lexC]
          by_cases hxy : x < y
          · simp only [if_pos hxy]; exact Ev.now _
          · by_cases hyx : x > y
            · simp only [if_neg hxy, if_pos hyx]; exact Ev.now _
            · simp only [if_neg hxy, if_neg hyx]; exact h
  refine Ev.congr (fun k => ?_) (loop a [] b [] rfl rfl rfl)
  simp only [slices_Compare_int_int.f]; rfl
def monoB (m : S60) : Bool := decide (1 ≤ m.f0) && decide (m.f0 ≤ 1000000000000000) && decide (m.f1.length = 8)
def expsB (m : S60) : Bool := m.f1.all fun n => decide (0 ≤ n) && decide (n ≤ 60)
def behindB : Option (List Int) → S60 → Bool
  | none, _ => true
  | some p, m => decide (lexC p m.f1 > 0)
def isR : Option (List Int) → List S60 → Bool
  | _, [] => true
  | p, m :: r => monoB m && (behindB p m && (expsB m && isR (some m.f1) r))
def isB (l : List S60) : Bool := decide (l.length ≤ 200) && isR none l
theorem expsB_no {m : S60} {pre r : List Int} {n : Int} (h : m.f1 = pre ++ n :: r) (hn : ¬ (0 ≤ n ∧ n ≤ 60)) : expsB m = false := by
  unfold expsB
  rw [h, List.all_append, List.all_cons]
  have : (decide (0 ≤ n) && decide (n ≤ 60)) = false := by
    rw [Bool.and_eq_false_iff]
    by_cases h0 : 0 ≤ n
    · exact .inr (decide_eq_false fun h1 => hn ⟨h0, h1⟩)
    · exact .inl (decide_eq_false h0)
  rw [this]; simp
theorem Is_ev (l : List S60) : Ev (fun k => tenetref24_Is.f k l) (isB l) := by
  by_cases hl : l.length ≤ 200
  case neg =>
    refine Ev.congr (f := fun _ => some (isB l)) (fun k => ?_) (Ev.now _)
    simp only [tenetref24_Is.f]
    rw [if_pos (by omega)]
    unfold isB
    rw [decide_eq_false hl]; rfl
  have hend : ∀ (m : S60) (r pre : List S60), l = pre ++ m :: r → m.f1.length = 8 →
      Ev (fun k => tenetref24_Is.l0 k l (wrap64 ((pre.length : Int) + 1))) (isR (some m.f1) r) →
      (∀ p, pre.getLast? = some p → p.f1.length = 8) →
      ∀ (re pe : List Int), m.f1 = pe ++ re → (pe.all fun n => decide (0 ≤ n) && decide (n ≤ 60)) = true →
        Ev (fun k => tenetref24_Is.l1 k l (pre.length : Int) (pe.length : Int)) (behindB ((pre.getLast?).map (·.f1)) m && (expsB m && isR (some m.f1) r)) := by
    intro m r pre hp h8 hnext hpre re
    have hll : pre.length < l.length := by rw [hp]; simp
    have em : rd_T60 l (pre.length : Int) = m := by rw [hp]; exact rdM_mid _ _ _
    induction re with
    | nil =>
      intro pe he hall
      rw [List.append_nil] at he
      have hx : expsB m = true := by unfold expsB; rw [he]; exact hall
      rw [hx, Bool.true_and]
      rcases List.eq_nil_or_concat pre with rfl | ⟨pre', q, rfl⟩
      · refine Ev.step (f := fun k => tenetref24_Is.l0 k l (wrap64 ((([] : List S60).length : Int) + 1))) (fun k => ?_) ?_
        · simp only [tenetref24_Is.l1]
          rw [if_neg (by rw [← he]; omega), if_neg (by simp)]
        · simpa [behindB] using hnext
      · have hq8 : q.f1.length = 8 := hpre q (by simp)
        have eq_ : rd_T60 l (pre'.length : Int) = q := by
          rw [hp]; simp only [List.concat_eq_append, List.append_assoc, List.singleton_append]; exact rdM_mid _ _ _
        have ew : wrap64 (((pre'.concat q).length : Int) - 1) = (pre'.length : Int) := by
          rw [show (((pre'.concat q).length : Nat) : Int) - 1 = ((pre'.length : Nat) : Int) by simp]
          exact wrap_nat _ (by simp at hll; omega)
        have hl1 : (pre'.concat q).length = pre'.length + 1 := by simp
        refine Ev.step (f := fun k => (tenetref24_less.f k q.f1 m.f1).bind fun t => if t = true then tenetref24_Is.l0 k l (wrap64 (((pre'.concat q).length : Int) + 1)) else some false) (fun k => ?_) ?_
        · simp only [tenetref24_Is.l1]
          rw [if_neg (by rw [← he]; omega), if_pos (by omega), ew, if_pos (by omega), if_pos (by omega), if_pos (by omega), if_pos (by omega), eq_, em]
        · refine Ev.bind (less_ev q.f1 m.f1 hq8 h8) ?_
          have hb : behindB (((pre'.concat q).getLast?).map (·.f1)) m = decide (lexC q.f1 m.f1 > 0) := by simp [behindB]
          rw [hb]
          by_cases hc : lexC q.f1 m.f1 > 0
          · simp only [decide_eq_true hc, if_true, Bool.true_and]; exact hnext
          · simp only [decide_eq_false hc, Bool.false_and, Bool.false_eq_true, if_false]; exact Ev.now _
    | cons n re ih =>
      intro pe he hall
      have hlt : pe.length < m.f1.length := by rw [he]; simp
      have en : rd m.f1 (pe.length : Int) = n := by rw [he]; exact rdI_mid _ _ _
      by_cases hn : 0 ≤ n ∧ n ≤ 60
      · have h := ih (pe ++ [n]) (by rw [he]; simp) (by rw [List.all_append, hall]; simp [hn.1, hn.2])
        rw [List.length_append, List.length_singleton] at h
        refine Ev.step (f := fun k => tenetref24_Is.l1 k l (pre.length : Int) (wrap64 ((pe.length : Int) + 1))) (fun k => ?_) ?_
        · simp only [tenetref24_Is.l1]
          rw [if_pos (by omega), if_pos (by omega), if_pos (by omega), if_pos (by omega), em, if_pos (by omega), en, if_neg (by omega), if_neg (by omega)]
        · rw [wrap_succ _ (by omega)]; exact h
      · have hx := expsB_no he hn
        refine Ev.step (f := fun _ => some false) (fun k => ?_) (by rw [hx, Bool.false_and, Bool.and_false]; exact Ev.now _)
        simp only [tenetref24_Is.l1]
        rw [if_pos (by omega), if_pos (by omega), if_pos (by omega), if_pos (by omega), em, if_pos (by omega), en]
        by_cases h0 : n < 0
        · rw [if_pos h0]
        · rw [if_neg h0, if_pos (by omega)]
  have loop : ∀ (r pre : List S60), l = pre ++ r → (∀ p, pre.getLast? = some p → p.f1.length = 8) → Ev (fun k => tenetref24_Is.l0 k l (pre.length : Int)) (isR ((pre.getLast?).map (·.f1)) r) := by
    intro r
    induction r with
    | nil =>
      intro pre hp _
      rw [List.append_nil] at hp
      refine Ev.step (f := fun _ => some true) (fun k => ?_) (by rw [isR]; exact Ev.now _)
      simp only [tenetref24_Is.l0]
      rw [if_neg (by rw [hp]; omega)]
    | cons m r ih =>
      intro pre hp hpre
      have hll : pre.length < l.length := by rw [hp]; simp
      have em : rd_T60 l (pre.length : Int) = m := by rw [hp]; exact rdM_mid _ _ _
      rw [isR]
      refine Ev.step (f := fun k => tenetref24_Is.j1 k l (pre.length : Int) (!monoB m)) (fun k => ?_) ?_
      · simp only [tenetref24_Is.l0]
        rw [if_pos (by omega), if_pos (by omega), em]
        unfold monoB
        by_cases h1 : m.f0 < 1
        · rw [if_pos h1, decide_eq_false (by omega)]; rfl
        · rw [if_neg h1, decide_eq_true (show 1 ≤ m.f0 by omega)]
          by_cases h2 : m.f0 > 1000000000000000
          · rw [if_pos h2, decide_eq_false (by omega)]; rfl
          · rw [if_neg h2, decide_eq_true (show m.f0 ≤ 1000000000000000 by omega)]
            by_cases h8 : m.f1.length = 8
            · simp [h8]
            · have : ((m.f1.length : Int) != 8) = true := by rw [bne_iff_ne]; omega
              simp [h8, this]
      · by_cases hm : monoB m = true
        · have h8 : m.f1.length = 8 := by unfold monoB at hm; simp at hm; exact hm.2
          have hnext := ih (pre ++ [m]) (by rw [hp]; simp) (fun p hp' => by simp at hp'; rw [← hp']; exact h8)
          simp only [List.length_append, List.length_singleton, List.getLast?_append, List.getLast?_singleton, Option.some_or, Option.map_some] at hnext
          rw [← wrap_succ _ (by omega)] at hnext
          have h := hend m r pre hp h8 hnext hpre m.f1 [] rfl rfl
          refine Ev.step (f := fun k => tenetref24_Is.l1 k l (pre.length : Int) 0) (fun k => ?_) (by rw [hm, Bool.true_and]; exact h)
          simp only [tenetref24_Is.j1]
          rw [hm]; rfl
        · rw [Bool.not_eq_true] at hm
          refine Ev.step (f := fun _ => some false) (fun k => ?_) (by rw [hm, Bool.false_and]; exact Ev.now _)
          simp only [tenetref24_Is.j1]
          rw [hm]; rfl
  refine Ev.congr (fun k => ?_) (by have := loop l [] rfl (by simp); unfold isB; rw [decide_eq_true hl, Bool.true_and]; exact this)
  simp only [tenetref24_Is.f]
  rw [if_neg (by omega)]; rfl
end Go.Proofs.Ythkclagcbjnckaa.Pa

namespace Go.Proofs.Ythkclagcbjnckaa.Pa
set_option linter.unusedVariables false
set_option linter.unusedSimpArgs false
open Go.RowKit Go.Proofs.RawMap Go.Proofs.YthkclagcbjnckaaW.PrintWords Go.Proofs.YthkclagcbjnckaaW.PrintLast Go.Proofs.YthkclagcbjnckaaW.PrintMore
theorem lexC_self : ∀ a : List Int, lexC a a = 0
  | [] => rfl
  | a :: x => by rw [lexC, if_neg (by omega), if_neg (by omega)]; exact lexC_self x
theorem lexC_trans : ∀ {a b c : List Int}, lexC a b > 0 → lexC b c > 0 → lexC a c > 0
  | [], [], _, h, _ => by simp [lexC] at h
  | [], _ :: _, _, h, _ => by simp [lexC] at h
  | _ :: _, [], [], _, h => by simp [lexC] at h
  | _ :: _, [], _ :: _, _, h => by simp [lexC] at h
  | _ :: _, _ :: _, [], _, _ => by simp [lexC]
  | a :: x, b :: y, c :: z, h1, h2 => by
    rw [lexC] at h1 h2 ⊢
    by_cases hab : a < b
    · rw [if_pos hab] at h1; omega
    · by_cases hbc : b < c
      · rw [if_pos hbc] at h2; omega
      · rw [if_neg (by omega)]
        by_cases hca : c < a
        · rw [if_pos hca]; omega
        · have e1 : a = b := by omega
          have e2 : b = c := by omega
          subst e1; subst e2
          rw [if_neg (by omega)]
          rw [if_neg (by omega), if_neg (by omega)] at h1 h2
          exact lexC_trans h1 h2
theorem cmp_c (A1 : Option Addr) (c1 : Nat) (a : List Int) (A2 : Option Addr) (c2 : Nat) (b : List Int) (w : World) (hr0 : (Kd.int .i64).C w A1 a.length a) (hc0 : a.length ≤ c1) (hr1 : (Kd.int .i64).C w A2 b.length b) (hc1 : b.length ≤ c2) (hla : a.length ≤ 1000) :
    Calls Try.prog 80 #[.slice A1 a.length c1, .slice A2 b.length c2] w fun e w' => e = .returned (.int .i64 (lexC a b)) ∧ Drawn0 w w' := by
  obtain ⟨k, hk⟩ := (cmp_ev a b hla).rounds
  exact slices_Compare_int_int.calls k A1 c1 a A2 c2 b _ w hr0 hc0 hr1 hc1 hk
def pairOf (m : S60) : List Int × Int := (m.f1, m.f0)
theorem expsB_at {m : S60} {j : Nat} (hj : j < m.f1.length) (h : ¬ (0 ≤ rd m.f1 (j : Int) ∧ rd m.f1 (j : Int) ≤ 60)) : expsB m = false := by
  have e : m.f1 = m.f1.take j ++ m.f1[j] :: m.f1.drop (j + 1) := by rw [← List.drop_eq_getElem_cons hj, List.take_append_drop]
  refine expsB_no e ?_
  have : rd m.f1 (j : Int) = m.f1[j] := by simp [rd, List.getD_eq_getElem?_getD, List.getElem?_eq_getElem hj]
  rw [← this]; exact h
theorem expsB_all {m : S60} (h : ∀ i : Nat, i < m.f1.length → 0 ≤ rd m.f1 (i : Int) ∧ rd m.f1 (i : Int) ≤ 60) : expsB m = true := by
  unfold expsB
  rw [List.all_eq_true]
  intro x hx
  obtain ⟨i, hi, rfl⟩ := List.getElem_of_mem hx
  have := h i hi
  rw [show rd m.f1 (i : Int) = m.f1[i] by simp [rd, List.getD_eq_getElem?_getD, List.getElem?_eq_getElem hi]] at this
  simp [this.1, this.2]
structure ReadLoop (w w' : World) (l : List S60) (k : Nat) (r : List S60) : Prop where
  split : ∃ pre, l = pre ++ r ∧ pre.length = k ∧ isR none l = isR (pre.getLast?.map (·.f1)) r ∧ PIs w' w.heap.size (pre.map pairOf) ∧
    (∀ q ∈ pre, q.f1.length = 8 ∧ expsB q = true ∧ 1 ≤ q.f0 ∧ q.f0 ≤ 1000000000000000) ∧
    (∀ q ∈ pre, ∀ x, (∀ z, pre.getLast? = some z → lexC z.f1 x > 0) → lexC q.f1 x > 0)
  below : Below w.heap.size w w'
theorem ReadLoop.at_ {w w' : World} {l : List S60} {k : Nat} {m : S60} {r : List S60} (h : ReadLoop w w' l k (m :: r)) : rd_T60 l (k : Int) = m := by
  obtain ⟨pre, h1, h2, _⟩ := h.split
  rw [h1, ← h2]; exact rdM_mid _ _ _
theorem ReadLoop.lt {w w' : World} {l : List S60} {k : Nat} {m : S60} {r : List S60} (h : ReadLoop w w' l k (m :: r)) : k < l.length := by
  obtain ⟨pre, h1, h2, _⟩ := h.split
  rw [h1, ← h2]; simp
theorem ReadLoop.len {w w' : World} {l : List S60} {k : Nat} (h : ReadLoop w w' l k []) : k = l.length := by
  obtain ⟨pre, h1, h2, _⟩ := h.split
  rw [h1, ← h2]; simp
theorem ReadLoop.start (w W : World) (l : List S60) (hm : PIs W w.heap.size []) (hb : Below w.heap.size w W) : ReadLoop w W l 0 l :=
  ⟨⟨[], rfl, rfl, rfl, hm, by simp, by simp⟩, hb⟩
theorem ReadLoop.done {w w' : World} {l : List S60} {k : Nat} (h : ReadLoop w w' l k []) (hl : l.length ≤ 200) : isB l = true ∧ PIs w' w.heap.size (l.map pairOf) := by
  obtain ⟨pre, h1, h2, h3, h4, _⟩ := h.split
  rw [List.append_nil] at h1
  subst h1
  exact ⟨by unfold isB; rw [h3, isR, decide_eq_true hl]; rfl, h4⟩
theorem ReadLoop.no1 {w w' : World} {l : List S60} {k : Nat} {m : S60} {r : List S60} (h : ReadLoop w w' l k (m :: r)) (hm : monoB m = false) : isB l = false := by
  obtain ⟨pre, h1, h2, h3, _⟩ := h.split
  unfold isB; rw [h3, isR, hm]; simp
theorem ReadLoop.no3 {w w' : World} {l : List S60} {k : Nat} {m : S60} {r : List S60} (h : ReadLoop w w' l k (m :: r)) (hm : expsB m = false) : isB l = false := by
  obtain ⟨pre, h1, h2, h3, _⟩ := h.split
  unfold isB; rw [h3, isR, hm]; simp
theorem ReadLoop.prev {w w' : World} {l : List S60} {k : Nat} {m : S60} {r : List S60} (h : ReadLoop w w' l k (m :: r)) (hk : 0 < k) :
    ∃ q, rd_T60 l ((k : Int) - 1) = q ∧ q.f1.length = 8 ∧ (lexC q.f1 m.f1 ≤ 0 → isB l = false) ∧ (lexC q.f1 m.f1 > 0 → ∀ pre, l = pre ++ m :: r → pre.length = k → ∀ z, pre.getLast? = some z → lexC z.f1 m.f1 > 0) := by
  obtain ⟨pre, h1, h2, h3, _, h5, _⟩ := h.split
  rcases List.eq_nil_or_concat pre with rfl | ⟨pre', q, rfl⟩
  · simp at h2; omega
  have hk1 : k = pre'.length + 1 := by rw [← h2]; simp
  refine ⟨q, ?_, (h5 q (by simp)).1, fun hc => ?_, fun hc pre hp hpl z hz => ?_⟩
  · rw [h1, hk1, show ((pre'.length + 1 : Nat) : Int) - 1 = (pre'.length : Int) by omega]
    simp only [List.concat_eq_append, List.append_assoc, List.singleton_append]
    exact rdM_mid _ _ _
  · unfold isB
    rw [h3, isR]
    have : behindB (((pre'.concat q).getLast?).map (·.f1)) m = false := by simp [behindB]; omega
    rw [this]; simp
  · have : pre = pre'.concat q := (List.append_inj (hp.symm.trans h1) (by rw [hpl, h2])).1
    subst this
    simp at hz
    rw [← hz]; exact hc
theorem grownN (w : World) (o : Obj) (n : Nat) : w.grownBy ((w.alloc o).drewN n).drew none := ⟨rfl, rfl, rfl, by simp [World.drew, World.drewN], fun i hi _ => Below.heap_alloc w _ i hi⟩
theorem ReadLoop.put {w w' W : World} {l : List S60} {k : Nat} {m : S60} {r : List S60} (h : ReadLoop w w' l k (m :: r)) (hm : 1 ≤ m.f0 ∧ m.f0 ≤ 1000000000000000 ∧ m.f1.length = 8) (he : expsB m = true)
    (hlex : ∀ pre, l = pre ++ m :: r → pre.length = k → ∀ z, pre.getLast? = some z → lexC z.f1 m.f1 > 0) (hW : w'.grownBy W none) :
    ∃ w1, (Instr.mapUpdate 63 (.map (some w.heap.size)) (keyV m.f1) (.int .i64 m.f0)).run Try.prog W = .ok () w1 ∧ (Below w.heap.size w w1 → ReadLoop w w1 l (k + 1) r) ∧ W.grownBy w1 (some w.heap.size) := by
  obtain ⟨pre, h1, h2, h3, h4, h5, h6⟩ := h.split
  have hl := hlex pre h1 h2
  have hx : ∀ x ∈ m.f1, 0 ≤ x ∧ x ≤ 60 := by
    unfold expsB at he
    rw [List.all_eq_true] at he
    intro x hx
    have := he x hx
    simpa using this
  have hne : ∀ q ∈ (pre.map pairOf).map enc, q.1 ≠ keyV m.f1 := by
    intro q hq e
    obtain ⟨q2, hq2, rfl⟩ := List.mem_map.1 hq
    obtain ⟨q3, hq3, rfl⟩ := List.mem_map.1 hq2
    have e2 : q3.f1 = m.f1 := keyV_inj e
    have := h6 q3 hq3 m.f1 hl
    rw [e2, lexC_self] at this
    omega
  obtain ⟨w1, hrun, hM, hg⟩ := MapIs.put_out (P := Try.prog) (t := 63) (key := keyV m.f1) (MapIs.kept h4 hW (by simp)) keyOk Try.underlying63 (VK_of hm.2.2 hx) hne (.int .i64 m.f0)
  refine ⟨w1, hrun, fun hb => ⟨⟨pre ++ [m], by rw [h1]; simp, by simp [h2], ?_, ?_, ?_, ?_⟩, hb⟩, hg⟩
  · rw [h3, isR, he]
    have a : monoB m = true := by unfold monoB; simp [hm.1, hm.2.1, hm.2.2]
    have b : behindB (pre.getLast?.map (·.f1)) m = true := by
      cases hz : pre.getLast? with
      | none => rfl
      | some z => simp [behindB, hl z hz]
    rw [a, b]; simp
  · simpa [PIs, enc, pairOf] using hM
  · intro q hq
    rcases List.mem_append.1 hq with hq | hq
    · exact h5 q hq
    · rw [List.mem_singleton] at hq
      subst hq
      exact ⟨hm.2.2, he, hm.1, hm.2.1⟩
  · intro q hq x hxx
    have hmx : lexC m.f1 x > 0 := hxx m (by simp)
    rcases List.mem_append.1 hq with hq | hq
    · exact h6 q hq x fun z hz => lexC_trans (hl z hz) hmx
    · rw [List.mem_singleton] at hq
      subst hq
      exact hmx
set_option maxRecDepth 100000 in
set_option maxHeartbeats 4000000 in
theorem read_c (l : List S60) (A : Option Addr) (c : Nat) (w : World) (hr : k60.C w A l.length l) (hc : l.length ≤ c) :
    Calls Try.prog 45 #[.slice A l.length c] w fun e w' => ∃ r, e = .returned (.tuple #[.map r, .bool (isB l)]) ∧ (isB l = true → ∃ b, r = some b ∧ PIs w' b (l.map pairOf)) ∧ Below w.heap.size w w' := by
  have hmm := @run_makeMap Try.prog
  have HR := Aside0.mk hr
  clear hr
  by_cases hl : l.length ≤ 200
  case neg =>
    have hb : decide (200 < (l.length : Int)) = true := decide_eq_true (by omega)
    have hb' : decide (200 < l.length) = true := decide_eq_true (by omega)
    have HF := Aside0.mk (show isB l = false by unfold isB; rw [decide_eq_false hl]; rfl)
    clear hl
    go_enter Try.func45, Try.ntmps45
    go_wp2_with fail
    go_ret2
    exact ⟨none, by rw [HF.out]; rfl, by rw [HF.out]; simp, below_alloc (Below.refl _ _) _⟩
  have hb : decide (200 < (l.length : Int)) = false := decide_eq_false (by omega)
  have hb' : decide (200 < l.length) = false := decide_eq_false (by omega)
  have HL := Aside0.mk hl
  clear hl
  go_enter Try.func45, Try.ntmps45
  go_wp2_with fail
  go_loopg [15] l.length (fun g s15 w' => ∃ (k : Nat) (r : List S60), s15 = .int .i64 k ∧ k + g = l.length ∧ Aside0 (ReadLoop w w' l k r))
  case atStart => exact ⟨0, l, rfl, by omega, ⟨ReadLoop.start _ _ _ (MapIs.made _ _) (below_alloc (Below.refl _ _) _)⟩⟩
  case round =>
    obtain ⟨k, r, rfl, hk, HI⟩ := hrel
    cases r with
    | nil =>
      obtain rfl : k = l.length := HI.out.len
      go_wp2_with fail
      go_ret2
      exact ⟨some w.heap.size, by rw [(HI.out.done HL.out).1]; rfl, fun _ => ⟨_, rfl, (HI.out.done HL.out).2⟩, HI.out.below⟩
    | cons m r =>
      have hlt : k < l.length := HI.out.lt
      have HB := Aside0.mk HI.out.below
      obtain ⟨ad, A2, c2, rfl, h0, h1, h2, h3⟩ := at_T60 (Kd.C_below HR.out HB.out) (k : Int) (by omega) (by omega)
      rw [Int.toNat_natCast] at h0 h1
      have hd : rd_T60 l (k : Int) = m := HI.out.at_
      rw [hd] at h0 h1 h2 h3
      clear hd
      have H2 := Aside0.mk h2
      have H3 := Aside0.mk h3
      clear h2 h3
      by_cases hm1 : m.f0 < 1
      · have b1 : decide (m.f0 < 1) = true := decide_eq_true hm1
        have HF := Aside0.mk (HI.out.no1 (by unfold monoB; rw [decide_eq_false (by omega)]; rfl))
        clear hm1
        go_wp2_with fail
        go_quiet (fail)
        go_wp2_with fail
        go_ret2
        exact ⟨none, by rw [HF.out]; rfl, by rw [HF.out]; simp, pw_below_drewN (below_alloc HB.out _) _⟩
      have b1 : decide (m.f0 < 1) = false := decide_eq_false hm1
      by_cases hm2 : 1000000000000000 < m.f0
      · have b2 : decide (1000000000000000 < m.f0) = true := decide_eq_true hm2
        have HF := Aside0.mk (HI.out.no1 (by unfold monoB; rw [decide_eq_false (show ¬ m.f0 ≤ 1000000000000000 by omega)]; simp))
        clear hm1 hm2
        go_wp2_with fail
        go_quiet (fail)
        go_wp2_with fail
        go_ret2
        exact ⟨none, by rw [HF.out]; rfl, by rw [HF.out]; simp, pw_below_drewN (below_alloc HB.out _) _⟩
      have b2 : decide (1000000000000000 < m.f0) = false := decide_eq_false hm2
      by_cases hm3 : m.f1.length = 8
      case neg =>
        have b3 : ((m.f1.length : Int) != 8) = true := by rw [bne_iff_ne]; omega
        have b3' : ((m.f1.length : Int) == 8) = false := by rw [beq_eq_false_iff_ne]; omega
        have HF := Aside0.mk (HI.out.no1 (by unfold monoB; rw [decide_eq_false hm3]; simp))
        clear hm1 hm2 hm3
        go_wp2_with fail
        go_quiet (fail)
        go_wp2_with fail
        go_ret2
        exact ⟨none, by rw [HF.out]; rfl, by rw [HF.out]; simp, pw_below_drewN (below_alloc HB.out _) _⟩
      have b3 : ((m.f1.length : Int) != 8) = false := by rw [hm3]; rfl
      have b3' : ((m.f1.length : Int) == 8) = true := by rw [hm3]; rfl
      have HM := Aside0.mk (show 1 ≤ m.f0 ∧ m.f0 ≤ 1000000000000000 ∧ m.f1.length = 8 by omega)
      clear hm1 hm2 hm3
      go_upto_region 7 with (fail)
      go_cut [49] (fun s49 wc => ∃ bad : Bool, s49 = .bool bad ∧ (bad = true → isB l = false) ∧ (bad = false → ∀ pre, l = pre ++ m :: r → pre.length = k → ∀ z, pre.getLast? = some z → lexC z.f1 m.f1 > 0) ∧ Drawn0 (wr.alloc (.cells #[.int .i64 m.f0, .slice A2 m.f1.length c2] 60)) wc)
      case first =>
        by_cases hk0 : 0 < k
        case neg =>
          have b4 : decide (0 < (k : Int)) = false := decide_eq_false (by omega)
          have b4' : decide (0 < k) = false := decide_eq_false (by omega)
          have HK := Aside0.mk hk0
          clear hk0
          go_wp2_with fail
          go_quiet (fail)
          go_wp2_with fail
          go_meet
          case rel =>
            go_light
            refine ⟨false, rfl, by simp, fun _ pre hp hpl z hz => ?_, ⟨_, rfl⟩⟩
            have := HK.out
            obtain rfl : pre = [] := List.eq_nil_of_length_eq_zero (by omega)
            simp at hz
        have b4 : decide (0 < (k : Int)) = true := decide_eq_true (by omega)
        have b4' : decide (0 < k) = true := decide_eq_true (by omega)
        obtain ⟨q, hq1, hq2, hq3, hq4⟩ := HI.out.prev hk0
        obtain ⟨j, hj⟩ : ∃ j : Int, wrap64 ((k : Int) - 1) = j := ⟨_, rfl⟩
        have hjw : (IntKind.i64.wrap ((k : Int) - 1)) = j := (i64_w _).trans hj
        have hjk : j = (k : Int) - 1 := by
          rw [← hj, show (k : Int) - 1 = ((k - 1 : Nat) : Int) by omega]
          have := HL.out
          exact wrap_nat _ (by omega)
        rw [← hjk] at hq1
        have p1 : 0 ≤ j := by omega
        have p2 : j < (l.length : Int) := by omega
        obtain ⟨ad', A3, c3, e3, g0, g1, g2, g3⟩ := at_T60 (Kd.C_below HR.out (below_alloc HB.out (.cells #[.int .i64 m.f0, .slice A2 m.f1.length c2] 60))) j p1 p2
        cases e3
        rw [hq1] at g0 g1 g2 g3
        have G2 := Aside0.mk g2
        have G3 := Aside0.mk g3
        have H3' := Aside0.mk (Kd.C_below H3.out (below_alloc (Below.refl _ _) (.cells #[.int .i64 m.f0, .slice A2 m.f1.length c2] 60)))
        have HQ := Aside0.mk (And.intro hq2 (And.intro hq3 hq4))
        have p1' := eq_true p1
        have p2' := eq_true p2
        replace p1 := decide_eq_true p1
        replace p2 := decide_eq_true p2
        clear g2 g3 hq1 hq2 hq3 hq4 hk0 hj hjk
        by_cases hc : lexC q.f1 m.f1 ≤ 0
        · have b5 : decide (lexC q.f1 m.f1 ≤ 0) = true := decide_eq_true hc
          have HF := Aside0.mk (HQ.out.2.1 hc)
          clear hc
          go_wp2_with fail
          go_quiet (first | (go_at_call 80; (with_reducible refine (cmp_c A3 c3 q.f1 A2 c2 m.f1 _ ?side1 G2.out ?side3 H2.out (by rw [HQ.out.1]; decide)).mono ?_); (case side1 => repeat (first | exact G3.out | (with_reducible refine Kd.C_alloc ?_ _) | (with_reducible refine Kd.C_drewN ?_ _) | (with_reducible refine Kd.C_drew ?_))); (case side3 => repeat (first | exact H3'.out | (with_reducible refine Kd.C_alloc ?_ _) | (with_reducible refine Kd.C_drewN ?_ _) | (with_reducible refine Kd.C_drew ?_))); rintro e w' ⟨rfl, ⟨nd, rfl⟩⟩; (try first | exact ⟨rfl, _, World.drewN_drewN _ _ _⟩ | exact ⟨rfl, _, Eq.trans (World.drewN_drewN _ _ _) (congrArg (World.drewN _) (Nat.add_assoc _ _ _))⟩)))
          go_wp2_with fail
          go_meet
          case rel =>
            go_light
            exact ⟨true, rfl, fun _ => HF.out, by simp, ⟨_, rfl⟩⟩
        · have b5 : decide (lexC q.f1 m.f1 ≤ 0) = false := decide_eq_false hc
          have HF := Aside0.mk (HQ.out.2.2 (by omega))
          clear hc
          go_wp2_with fail
          go_quiet (first | (go_at_call 80; (with_reducible refine (cmp_c A3 c3 q.f1 A2 c2 m.f1 _ ?side1 G2.out ?side3 H2.out (by rw [HQ.out.1]; decide)).mono ?_); (case side1 => repeat (first | exact G3.out | (with_reducible refine Kd.C_alloc ?_ _) | (with_reducible refine Kd.C_drewN ?_ _) | (with_reducible refine Kd.C_drew ?_))); (case side3 => repeat (first | exact H3'.out | (with_reducible refine Kd.C_alloc ?_ _) | (with_reducible refine Kd.C_drewN ?_ _) | (with_reducible refine Kd.C_drew ?_))); rintro e w' ⟨rfl, ⟨nd, rfl⟩⟩; (try first | exact ⟨rfl, _, World.drewN_drewN _ _ _⟩ | exact ⟨rfl, _, Eq.trans (World.drewN_drewN _ _ _) (congrArg (World.drewN _) (Nat.add_assoc _ _ _))⟩)))
          go_wp2_with fail
          go_meet
          case rel =>
            go_light
            exact ⟨false, rfl, by simp, fun _ => HF.out, ⟨_, rfl⟩⟩
      case rest =>
        obtain ⟨bad, rfl, hbad, hgood, ⟨nd, rfl⟩⟩ := hcut
        cases bad with
        | true =>
          have HF := Aside0.mk (hbad rfl)
          clear hbad hgood
          go_wp2_with fail
          go_ret2
          exact ⟨none, by rw [HF.out]; rfl, by rw [HF.out]; simp, pw_below_drewN (below_alloc HB.out _) _⟩
        | false =>
          have HG := Aside0.mk (hgood rfl)
          clear hbad hgood
          go_wp2_with fail
          go_loopg [53] m.f1.length (fun g s53 w' => ∃ j : Nat, s53 = .int .i64 j ∧ j + g = m.f1.length ∧ Aside0 (∀ i : Nat, i < j → 0 ≤ rd m.f1 (i : Int) ∧ rd m.f1 (i : Int) ≤ 60) ∧ Drawn0 (wr.alloc (.cells #[.int .i64 m.f0, .slice A2 m.f1.length c2] 60)) w')
          case atStart => exact ⟨0, rfl, by omega, ⟨fun i hi => absurd hi (Nat.not_lt_zero _)⟩, ⟨_, rfl⟩⟩
          case round =>
            obtain ⟨j, rfl, hj, HJ, ⟨n2, rfl⟩⟩ := hrel
            by_cases hjl : j < m.f1.length
            · obtain ⟨ad', e', x0⟩ := Kd.at_int (Kd.C_below H3.out (below_alloc (Below.refl _ _) (.cells #[.int .i64 m.f0, .slice A2 m.f1.length c2] 60))) (j : Int) (by omega) (by omega)
              cases e'
              rw [Int.toNat_natCast] at x0
              obtain ⟨x, hx⟩ : ∃ x, rd m.f1 (j : Int) = x := ⟨_, rfl⟩
              rw [hx] at x0
              have HX := Aside0.mk hx
              clear hx
              have c1 : decide ((j : Int) < (m.f1.length : Int)) = true := decide_eq_true (by omega)
              have c1' : decide (j < m.f1.length) = true := decide_eq_true hjl
              have HJL := Aside0.mk hjl
              by_cases hx0 : x < 0
              · have d1 : decide (x < 0) = true := decide_eq_true hx0
                have HF := Aside0.mk (HI.out.no3 (expsB_at HJL.out (by rw [HX.out]; omega)))
                clear hx0
                go_wp2_with fail
                repeat (go_quiet (fail); try go_wp2_with fail)
                go_ret2
                exact ⟨none, by rw [HF.out]; rfl, by rw [HF.out]; simp, by (with_reducible repeat (first | apply pw_below_drewN | apply below_drew)); exact below_alloc HB.out _⟩
              have d1 : decide (x < 0) = false := decide_eq_false hx0
              by_cases hx1 : 60 < x
              · have d2 : decide (60 < x) = true := decide_eq_true hx1
                have HF := Aside0.mk (HI.out.no3 (expsB_at HJL.out (by rw [HX.out]; omega)))
                clear hx0 hx1
                go_wp2_with fail
                repeat (go_quiet (fail); try go_wp2_with fail)
                go_ret2
                exact ⟨none, by rw [HF.out]; rfl, by rw [HF.out]; simp, by (with_reducible repeat (first | apply pw_below_drewN | apply below_drew)); exact below_alloc HB.out _⟩
              have d2 : decide (60 < x) = false := decide_eq_false hx1
              have HJ2 := Aside0.mk (fun (i : Nat) (hi : i < j + 1) => show 0 ≤ rd m.f1 (i : Int) ∧ rd m.f1 (i : Int) ≤ 60 by
                by_cases e : i = j
                · rw [e, HX.out]; omega
                · exact HJ.out i (by omega))
              clear hx0 hx1
              go_wp2_with fail
              repeat (go_quiet (fail); try go_wp2_with fail)
              go_roundg (m.f1.length - (j + 1))
              case measure => have := HJL.out; omega
              case rel => exact ⟨j + 1, by (have h8 := HM.out.2.2; have h9 := HJL.out; first | exact congrArg _ (wrap_succ j (by omega)) | exact congrArg _ ((i64_w _).trans (wrap_succ j (by omega)))), by have := HJL.out; omega, HJ2, ⟨_, rfl⟩⟩
            · obtain rfl : j = m.f1.length := by omega
              have HE := Aside0.mk (expsB_all HJ.out)
              clear HJ hjl
              obtain ⟨w1, hrun, hN, hg⟩ := HI.out.put HM.out HE.out HG.out (((grownN wr (.cells #[.int .i64 m.f0, .slice A2 m.f1.length c2] 60) n2)))
              have hb1 : Below w.heap.size w w1 := (pw_below_drewN (below_alloc HB.out (.cells #[.int .i64 m.f0, .slice A2 m.f1.length c2] 60)) (n2 + 1)).grown hg (Nat.le_trans HB.out.size (Nat.le_of_lt (la0 wr _))) (fun k hk => by injection hk with hk; omega)
              have HN := Aside0.mk (hN hb1)
              have HB1 := Aside0.mk hb1
              obtain ⟨f0, f1⟩ := m
              have h8 : f1.length = 8 := HM.out.2.2
              have hcl := fun (j : Nat) (hj : j < 8) => Kd.at_int (Kd.C_below H3.out (below_alloc (Below.refl _ _) (.cells #[.int .i64 f0, .slice A2 f1.length c2] 60))) (j : Int) (by omega) (by show (j : Int) < (f1.length : Int); omega)
              obtain ⟨a0, a1, a2, a3, a4, a5, a6, a7, rfl⟩ := eight h8
              obtain ⟨ad2, e2, y0⟩ := hcl 0 (by decide)
              cases e2
              obtain ⟨_, e2, y1⟩ := hcl 1 (by decide)
              cases e2
              obtain ⟨_, e2, y2⟩ := hcl 2 (by decide)
              cases e2
              obtain ⟨_, e2, y3⟩ := hcl 3 (by decide)
              cases e2
              obtain ⟨_, e2, y4⟩ := hcl 4 (by decide)
              cases e2
              obtain ⟨_, e2, y5⟩ := hcl 5 (by decide)
              cases e2
              obtain ⟨_, e2, y6⟩ := hcl 6 (by decide)
              cases e2
              obtain ⟨_, e2, y7⟩ := hcl 7 (by decide)
              cases e2
              clear hcl hN hg hb1 h8
              simp only [rd, Int.toNat_natCast, List.getD_cons_zero, List.getD_cons_succ, List.length_cons, List.length_nil, Nat.zero_add, Nat.reduceAdd] at y0 y1 y2 y3 y4 y5 y6 y7 hrun
              replace y0 : (wr.alloc (.cells #[.int .i64 f0, .slice (some ad2) 8 c2] 60)).cell? ad2 = some (.int .i64 a0) := y0
              replace y1 : (wr.alloc (.cells #[.int .i64 f0, .slice (some ad2) 8 c2] 60)).cell? ⟨ad2.block, ad2.off + 1, none⟩ = some (.int .i64 a1) := y1
              replace y2 : (wr.alloc (.cells #[.int .i64 f0, .slice (some ad2) 8 c2] 60)).cell? ⟨ad2.block, ad2.off + 2, none⟩ = some (.int .i64 a2) := y2
              replace y3 : (wr.alloc (.cells #[.int .i64 f0, .slice (some ad2) 8 c2] 60)).cell? ⟨ad2.block, ad2.off + 3, none⟩ = some (.int .i64 a3) := y3
              replace y4 : (wr.alloc (.cells #[.int .i64 f0, .slice (some ad2) 8 c2] 60)).cell? ⟨ad2.block, ad2.off + 4, none⟩ = some (.int .i64 a4) := y4
              replace y5 : (wr.alloc (.cells #[.int .i64 f0, .slice (some ad2) 8 c2] 60)).cell? ⟨ad2.block, ad2.off + 5, none⟩ = some (.int .i64 a5) := y5
              replace y6 : (wr.alloc (.cells #[.int .i64 f0, .slice (some ad2) 8 c2] 60)).cell? ⟨ad2.block, ad2.off + 6, none⟩ = some (.int .i64 a6) := y6
              replace y7 : (wr.alloc (.cells #[.int .i64 f0, .slice (some ad2) 8 c2] 60)).cell? ⟨ad2.block, ad2.off + 7, none⟩ = some (.int .i64 a7) := y7
              replace hrun : (Instr.mapUpdate 63 (.map (some w.heap.size)) (.agg #[.int .i64 a0, .int .i64 a1, .int .i64 a2, .int .i64 a3, .int .i64 a4, .int .i64 a5, .int .i64 a6, .int .i64 a7]) (.int .i64 f0)).run Try.prog ((wr.alloc (.cells #[.int .i64 f0, .slice (some ad2) 8 c2] 60)).drewN (n2 + 1)) = .ok () w1 := hrun
              have hat : ∀ w, (Instr.arrayAt 76 (.slice (some ad2) 8 c2)).run Try.prog w = .ok (.pointer (some ad2)) w := fun w => run_arrayAt w 76 _ 8 _ 8 c2 Try.underlying76 (by decide)
              go_wp2_with fail
              go_big_region
              go_wp2_with fail
              go_roundg (l.length - (k + 1))
              case measure => have := HI.out.lt; omega
              case rel => exact ⟨k + 1, r, by (have h8 := HL.out; have h9 := HI.out.lt; first | exact congrArg _ (wrap_succ k (by omega)) | exact congrArg _ ((i64_w _).trans (wrap_succ k (by omega)))), by have := HI.out.lt; omega, HN⟩
end Go.Proofs.Ythkclagcbjnckaa.Pa

namespace Go.Proofs.Ythkclagcbjnckaa.Pa
set_option linter.unusedVariables false
set_option linter.unusedSimpArgs false
open Go.RowKit Go.Proofs.RawMap Go.Proofs.YthkclagcbjnckaaW.PrintWords Go.Proofs.YthkclagcbjnckaaW.PrintLast Go.Proofs.YthkclagcbjnckaaW.PrintMore
def tenetlaw24_awake.f : Option (Bool) := some true
theorem tenetlaw24_awake.calls (r : Bool) (w : World) (h : tenetlaw24_awake.f = some r) :
    Calls Try.prog 13 #[] w fun e w' => e = .returned (.bool r) ∧ Below w.heap.size w w' := by
  obtain rfl := Option.some.inj h
  exact awake_c w
end Go.Proofs.Ythkclagcbjnckaa.Pa


namespace Go.Proofs.Ythkclagcbjnckaa.Pa
open Go.RowKit Go.Proofs.YthkclagcbjnckaaW.PrintWords Go.Proofs.YthkclagcbjnckaaW.PrintLast Go.Proofs.YthkclagcbjnckaaW.PrintMore
attribute [local go_sem] max2_int min2_int max_two min_two max_three min_three max_four min_four
set_option linter.unusedVariables false
set_option linter.unusedSimpArgs false
def tenetref24_same.f (k : Nat) (l0 : List Int) (l1 : List Int) : Option (Bool) := (tenetref24_less.f k l0 l1).bind fun t315 => (if t315 = true then (some false) else ((tenetref24_less.f k l1 l0).bind fun t316 => (some (!t316))))
set_option maxHeartbeats 8000000 in
set_option maxRecDepth 100000 in
theorem tenetref24_same.calls (k : Nat) (A0 : Option Addr) (c0 : Nat) (l0 : List Int) (A1 : Option Addr) (c1 : Nat) (l1 : List Int) (r : Bool) (w : World) (hr0 : Kd.C (Kd.int .i64) w A0 l0.length l0) (hc0 : l0.length ≤ c0) (hr1 : Kd.C (Kd.int .i64) w A1 l1.length l1) (hc1 : l1.length ≤ c1) (h : tenetref24_same.f k l0 l1 = some r) :
  Calls Try.prog 113 #[.slice A0 l0.length c0, .slice A1 l1.length c1] w fun e w' => e = .returned (.bool r) ∧ Drawn0 w w' := by
 have HR0 := Aside0.mk hr0
 have HC0 := Aside0.mk hc0
 clear hr0 hc0
 have HR1 := Aside0.mk hr1
 have HC1 := Aside0.mk hc1
 clear hr1 hc1
 have H : ((tenetref24_less.f k l0 l1).bind fun t315 => (if t315 = true then (some false) else ((tenetref24_less.f k l1 l0).bind fun t316 => (some (!t316))))) = some r := h
 clear h
 replace H := Option.bind_eq_some_iff.mp H
 obtain ⟨t315, A30, H⟩ := H
 replace H : (if t315 = true then (some false) else ((tenetref24_less.f k l1 l0).bind fun t316 => (some (!t316)))) = some r := H
 have A3 := Aside0.mk A30
 clear A30
 by_cases c4 : t315 = true
 ·subst c4
  have H1 : (some false) = some r := by rw [if_pos rfl] at H; exact H
  clear H
  have H := H1
  clear H1
  obtain rfl := Option.some.inj H
  go_enter Try.func113, Try.ntmps113
  go_wp2_with (first | ((with_reducible refine gate_callee (f := 81) rfl ?_); refine goesL_ (some 7) rfl rfl Try.func81 (by kernel_rfl) rfl #[.slice A0 l0.length c0, .slice A1 l1.length c1] rfl (by (try simp only [List.map_toArray, List.map_cons, List.map_nil]); first | done | rfl | (simp only [List.length_drop, List.length_take]; rfl)) ?_; (with_reducible refine (tenetref24_less.calls k _ _ l0 _ _ l1 true _ ?side1 ?side2 ?side3 ?side4 A3.out).mono ?_); (case side1 => repeat (first | exact HR0.out | (with_reducible refine Kd.C_alloc ?_ _) | (with_reducible refine Kd.C_drewN ?_ _) | (with_reducible refine Kd.C_drew ?_))); (case side2 => exact HC0.out); (case side3 => repeat (first | exact HR1.out | (with_reducible refine Kd.C_alloc ?_ _) | (with_reducible refine Kd.C_drewN ?_ _) | (with_reducible refine Kd.C_drew ?_))); (case side4 => exact HC1.out); rintro e w' ⟨rfl, ⟨nd, rfl⟩⟩; refine ⟨_, rfl, ?_⟩))
  go_ret
  exact ⟨by first | rfl | (simp; done) | (simp [*]; done), by repeat (first | exact Drawn0.refl _ | apply Drawn0.step)⟩
 ·replace c4 := Bool.eq_false_iff.mpr c4
  subst c4
  have H1 : ((tenetref24_less.f k l1 l0).bind fun t316 => (some (!t316))) = some r := by rw [if_neg (show ¬ (false = true) by decide)] at H; exact H
  clear H
  have H := H1
  clear H1
  replace H := Option.bind_eq_some_iff.mp H
  obtain ⟨t316, A50, H⟩ := H
  replace H : (some (!t316)) = some r := H
  have A5 := Aside0.mk A50
  clear A50
  obtain rfl := Option.some.inj H
  go_enter Try.func113, Try.ntmps113
  go_wp2_with (first | ((with_reducible refine gate_callee (f := 81) rfl ?_); refine goesL_ (some 7) rfl rfl Try.func81 (by kernel_rfl) rfl #[.slice A0 l0.length c0, .slice A1 l1.length c1] rfl (by (try simp only [List.map_toArray, List.map_cons, List.map_nil]); first | done | rfl | (simp only [List.length_drop, List.length_take]; rfl)) ?_; (with_reducible refine (tenetref24_less.calls k _ _ l0 _ _ l1 false _ ?side1 ?side2 ?side3 ?side4 A3.out).mono ?_); (case side1 => repeat (first | exact HR0.out | (with_reducible refine Kd.C_alloc ?_ _) | (with_reducible refine Kd.C_drewN ?_ _) | (with_reducible refine Kd.C_drew ?_))); (case side2 => exact HC0.out); (case side3 => repeat (first | exact HR1.out | (with_reducible refine Kd.C_alloc ?_ _) | (with_reducible refine Kd.C_drewN ?_ _) | (with_reducible refine Kd.C_drew ?_))); (case side4 => exact HC1.out); rintro e w' ⟨rfl, ⟨nd, rfl⟩⟩; refine ⟨_, rfl, ?_⟩) | (go_at_call 81; (with_reducible refine (tenetref24_less.calls k _ _ l1 _ _ l0 t316 _ ?side1 ?side2 ?side3 ?side4 A5.out).mono ?_); (case side1 => repeat (first | exact HR1.out | (with_reducible refine Kd.C_alloc ?_ _) | (with_reducible refine Kd.C_drewN ?_ _) | (with_reducible refine Kd.C_drew ?_))); (case side2 => exact HC1.out); (case side3 => repeat (first | exact HR0.out | (with_reducible refine Kd.C_alloc ?_ _) | (with_reducible refine Kd.C_drewN ?_ _) | (with_reducible refine Kd.C_drew ?_))); (case side4 => exact HC0.out); rintro e w' ⟨rfl, ⟨nd, rfl⟩⟩))
  go_ret
  exact ⟨by first | rfl | (simp; done) | (simp [*]; done), by repeat (first | exact Drawn0.refl _ | apply Drawn0.step)⟩
end Go.Proofs.Ythkclagcbjnckaa.Pa


namespace Go.Proofs.Ythkclagcbjnckaa.Pa
open Go.RowKit Go.Proofs.YthkclagcbjnckaaW.PrintWords Go.Proofs.YthkclagcbjnckaaW.PrintLast Go.Proofs.YthkclagcbjnckaaW.PrintMore
attribute [local go_sem] max2_int min2_int max_two min_two max_three min_three max_four min_four
set_option linter.unusedVariables false
set_option linter.unusedSimpArgs false
mutual
def tenetref24_into.j1 : Nat → List (S60) → Int → Int → List Int → Option ((List (S60)) × Bool)
 | 0, _, _, _, _ => none
 | k + 1, x0, x6, x318000, x318001 => if 0 ≤ x6 then (if x6 ≤ (x0.length : Int) then ((some (x0.take (x6 : Int).toNat : List (S60))).bind fun y320 => (if ([] : List (S60)).length + y320.length < 4398046511104 then ((some (([] : List (S60)) ++ y320 : List (S60))).bind fun y325 => (if x6 < (x0.length : Int) then ((tenetref24_same.f k ((rd_T60 x0 x6).f1) x318001).bind fun t329 => (tenetref24_into.j2 k x0 x6 y325 t329 x318000 x318001)) else (tenetref24_into.j2 k x0 x6 y325 false x318000 x318001))) else (none))) else (none)) else (none)
def tenetref24_into.j2 : Nat → List (S60) → Int → List (S60) → Bool → Int → List Int → Option ((List (S60)) × Bool)
 | 0, _, _, _, _, _, _ => none
 | k + 1, x0, x6, x7, x42, x318000, x318001 => if x42 = true then (if 0 ≤ x6 then (if x6 < (x0.length : Int) then (if ((rd_T60 x0 x6).f0) > (wrap64 (1000000000000000 - x318000)) then (some (([] : List (S60)), false)) else (if x7.length < 4398046511104 then ((some (x7 ++ [(⟨wrap64 (((rd_T60 x0 x6).f0) + x318000), (rd_T60 x0 x6).f1⟩ : S60)] : List (S60))).bind fun y333 => (if 0 ≤ (wrap64 (x6 + 1)) then (if (wrap64 (x6 + 1)) ≤ (x0.length : Int) then ((some (x0.drop ((wrap64 (x6 + 1)) : Int).toNat : List (S60))).bind fun y336 => (if y333.length + y336.length < 4398046511104 then (some ((y333 ++ y336), true)) else (none))) else (none)) else (none))) else (none))) else (none)) else (none)) else (if x7.length < 4398046511104 then ((some (x7 ++ [(⟨x318000, x318001⟩ : S60)] : List (S60))).bind fun y344 => (if 0 ≤ x6 then (if x6 ≤ (x0.length : Int) then ((some (x0.drop (x6 : Int).toNat : List (S60))).bind fun y347 => (if y344.length + y347.length < 4398046511104 then (some ((y344 ++ y347), true)) else (none))) else (none)) else (none))) else (none))
def tenetref24_into.l0 : Nat → List (S60) → Int → Int → List Int → Option ((List (S60)) × Bool)
 | 0, _, _, _, _ => none
 | k + 1, x0, x6, x318000, x318001 => if x6 < (x0.length : Int) then (if 0 ≤ x6 then ((tenetref24_less.f k ((rd_T60 x0 x6).f1) x318001).bind fun t319 => (if t319 = true then (tenetref24_into.l0 k x0 (wrap64 (x6 + 1)) x318000 x318001) else (tenetref24_into.j1 k x0 x6 x318000 x318001))) else (none)) else (tenetref24_into.j1 k x0 x6 x318000 x318001)
end
def tenetref24_into.f (k : Nat) (l0 : List (S60)) (a1_0 : Int) (l1_1 : List Int) : Option ((List (S60)) × Bool) := tenetref24_into.l0 k l0 0 a1_0 l1_1
def tenetref24_into.T2 : Bool × List (List Nat × List Nat) := (true, [([], []), ([], []), ([1], [1]), ([0, 2], [0, 2]), ([3], [3]), ([4], [4]), ([4], [4]), ([5, 6, 4], [4, 5, 6]), ([7, 4], [4, 7]), ([8, 4], [4, 8]), ([4], [4]), ([10, 4], [4, 10]), ([9, 11, 4, 4], [4, 9, 11]), ([4, 12], [4, 12])])
def tenetref24_into.B2 : List Nat := [0, 0, 2, 7, 15, 31, 31, 127, 255, 511, 31, 1055, 4095, 8191]
theorem tenetref24_into.tab2 : rtab .any (opsOf Try.f95 2) = tenetref24_into.T2 := by kernel_rfl
theorem tenetref24_into.bits2 : waitsOk tenetref24_into.T2.2 tenetref24_into.B2 = true := by kernel_rfl
def tenetref24_into.T6 : Bool × List (List Nat × List Nat) := (true, [([], []), ([], []), ([1], [1]), ([0, 2], [0, 2]), ([3], [3]), ([4], [4]), ([4], [4]), ([5, 6, 4], [4, 5, 6]), ([7, 4], [4, 7]), ([8, 4], [4, 8]), ([4], [4]), ([10, 4], [4, 10]), ([9, 11, 4, 4], [4, 9, 11]), ([4, 12], [4, 12])])
def tenetref24_into.B6 : List Nat := [0, 0, 2, 7, 15, 31, 31, 127, 255, 511, 31, 1055, 4095, 8191]
theorem tenetref24_into.tab6 : rtab .any (opsOf Try.f95 6) = tenetref24_into.T6 := by kernel_rfl
theorem tenetref24_into.bits6 : waitsOk tenetref24_into.T6.2 tenetref24_into.B6 = true := by kernel_rfl
def tenetref24_into.T7 : Bool × List (List Nat × List Nat) := (true, [([], []), ([], []), ([0, 1], [0, 1]), ([2], [2]), ([3], [3]), ([], []), ([5], [5]), ([6], [6]), ([4, 7], [4, 7])])
def tenetref24_into.B7 : List Nat := [0, 0, 3, 7, 15, 0, 32, 96, 255]
theorem tenetref24_into.tab7 : rtab .any (opsOf Try.f95 7) = tenetref24_into.T7 := by kernel_rfl
theorem tenetref24_into.bits7 : waitsOk tenetref24_into.T7.2 tenetref24_into.B7 = true := by kernel_rfl
def tenetref24_into.T9 : Bool × List (List Nat × List Nat) := (true, [([], []), ([], []), ([], []), ([1, 2], [1, 2]), ([3], [3]), ([4], [4]), ([], []), ([6], [6]), ([5, 7], [5, 7]), ([], []), ([], []), ([9, 10], [9, 10]), ([11], [11]), ([12], [12]), ([8, 13], [8, 13]), ([14], [14]), ([0, 15], [0, 15]), ([16, 16, 0, 1, 2, 3, 4, 5, 6, 7, 8, 9, 10, 11, 12, 13, 14, 15, 16], [0, 16])])
def tenetref24_into.B9 : List Nat := [0, 0, 0, 6, 14, 30, 0, 64, 254, 0, 0, 1536, 3584, 7680, 16382, 32766, 65535, 131071]
theorem tenetref24_into.tab9 : rtab .any (opsOf Try.f95 9) = tenetref24_into.T9 := by kernel_rfl
theorem tenetref24_into.bits9 : waitsOk tenetref24_into.T9.2 tenetref24_into.B9 = true := by kernel_rfl
set_option maxHeartbeats 8000000 in
set_option maxRecDepth 100000 in
theorem tenetref24_into.calls (k : Nat) (P0_ : Nat → Prop) (A0 : Option Addr) (c0 : Nat) (l0 : List (S60)) (a1_0 : Int) (P1_1_ : Nat → Prop) (A1_1 : Option Addr) (c1_1 : Nat) (l1_1 : List Int) (r1 : List (S60)) (r2 : Bool) (w : World) (hs0 : Kd.V k60 60 w w.heap.size (fun k_ => P0_ k_) (.slice A0 l0.length c0) l0) (hs1_1 : Kd.V (Kd.int .i64) 3 w w.heap.size (fun k_ => P1_1_ k_) (.slice A1_1 l1_1.length c1_1) l1_1) (h : tenetref24_into.f k l0 a1_0 l1_1 = some (r1, r2)) :
  Calls Try.prog 95 #[.slice A0 l0.length c0, .agg #[.int .i64 a1_0, .slice A1_1 l1_1.length c1_1]] w fun e w' => ∃ v0_ : Value, e = .returned (.tuple #[v0_, .bool r2]) ∧ Kd.N k60 60 w' w.heap.size (fun k_ => ((P0_ k_ ∨ P1_1_ k_) ∨ w.heap.size ≤ k_)) v0_ r1 ∧ Below w.heap.size w w' := by
 have hu60 := Try.underlying60
 have HO0 := Aside0.mk (show Kd.V k60 60 w w.heap.size (fun k_ => ((P0_ k_ ∨ P1_1_ k_) ∨ w.heap.size ≤ k_)) (.slice A0 l0.length c0) l0 from Kd.V_mono hs0 (fun k_ hk => .inl (.inl hk)))
 have HO1_1 := Aside0.mk (show Kd.V (Kd.int .i64) 3 w w.heap.size (fun k_ => ((P0_ k_ ∨ P1_1_ k_) ∨ w.heap.size ≤ k_)) (.slice A1_1 l1_1.length c1_1) l1_1 from Kd.V_mono hs1_1 (fun k_ hk => .inl (.inr hk)))
 have HB := Aside0.mk (Below.refl w.heap.size w)
 have H : (tenetref24_into.l0 k l0 0 a1_0 l1_1) = some (r1, r2) := h
 clear h
 have HC3 := Aside0.mk H
 clear H
 go_enter Try.func95, Try.ntmps95
 go_upto_block 0 with (first | ((with_reducible refine gate_dst (N := 3) rfl ?_); refine box_event ?hg (N := 3) ?hd (cs := #[.int .i64 a1_0, .slice A1_1 l1_1.length c1_1]) (t := 60) ?hr ?_; (case hd => rfl); (case hg => rfl); (case hr => first | (go_simp; done) | (go_simp; rfl)); intro gb317 hg w4 hbox hb; have n0_ := Aside0.mk (Kd.V_below (Kd.V_elderB (by (with_reducible repeat (first | apply Kd.V_alloc | apply Kd.V_drewN | apply Kd.V_drew)); exact HO0.out) gb317 (Nat.le_of_eq hg.symm)) hb); have n1_ := Aside0.mk (Kd.V_below (Kd.V_elderB (by (with_reducible repeat (first | apply Kd.V_alloc | apply Kd.V_drewN | apply Kd.V_drew)); exact HO1_1.out) gb317 (Nat.le_of_eq hg.symm)) hb); have n2_ := Aside0.mk (below_step (by repeat (first | (with_reducible first | exact HB.out | apply below_alloc | apply pw_below_drewN | apply below_drew1) | exact HB.out)) hb); have n3_ := Aside0.mk (hbox); have n4_ := Aside0.mk ((by rw [hg]; exact (below_size (by repeat (first | (with_reducible first | exact HB.out | apply below_alloc | apply pw_below_drewN | apply below_drew1) | exact HB.out))) : w.heap.size ≤ gb317)); have n5_ := Aside0.mk ((by rw [hg]; exact (below_size (by repeat (first | (with_reducible first | exact HB.out | apply below_alloc | apply pw_below_drewN | apply below_drew1) | exact HB.out))) : w.heap.size ≤ gb317)); clear HO0; clear HO1_1; clear HB; have HO0 := n0_; have HO1_1 := n1_; have HB := n2_; have BK317 := n3_; have GW317 := n4_; have GE317 := n5_; clear n0_ n1_ n2_ n3_ n4_ n5_; clear hb hbox hg))
 (try simp only [Act.put, List.setIfInBounds_toArray, List.set_cons_zero, List.set_cons_succ])
 go_cut [6] (fun v6 wc => ∃ (kq : Nat) (x6_2 : Int), v6 = .int .i64 x6_2 ∧ Aside0 (tenetref24_into.j1 kq l0 x6_2 a1_0 l1_1 = some (r1, r2)) ∧ Aside0 (kq ≤ k) ∧ Aside0 (Kd.V k60 60 wc w.heap.size (fun k_ => ((P0_ k_ ∨ P1_1_ k_) ∨ w.heap.size ≤ k_) ∧ k_ ≠ gb317) (.slice A0 l0.length c0) l0) ∧ Aside0 (Kd.V (Kd.int .i64) 3 wc w.heap.size (fun k_ => ((P0_ k_ ∨ P1_1_ k_) ∨ w.heap.size ≤ k_) ∧ k_ ≠ gb317) (.slice A1_1 l1_1.length c1_1) l1_1) ∧ Aside0 (wc.heap[gb317]? = some (.cells #[.int .i64 a1_0, (.slice A1_1 l1_1.length c1_1)] 60 (0, 0))) ∧ Aside0 (Below w.heap.size w wc))
 case first =>
  have H := HC3.out
  clear HC3
  have H' := Aside0.mk H
  clear H
  go_wp2
  go_loopg [6] k (fun kq v6 w' => ∃ (x6_1 : Int), v6 = .int .i64 x6_1 ∧ Aside0 (tenetref24_into.l0 kq l0 x6_1 a1_0 l1_1 = some (r1, r2)) ∧ Aside0 (kq ≤ k) ∧ Aside0 (Kd.V k60 60 w' w.heap.size (fun k_ => ((P0_ k_ ∨ P1_1_ k_) ∨ w.heap.size ≤ k_) ∧ k_ ≠ gb317) (.slice A0 l0.length c0) l0) ∧ Aside0 (Kd.V (Kd.int .i64) 3 w' w.heap.size (fun k_ => ((P0_ k_ ∨ P1_1_ k_) ∨ w.heap.size ≤ k_) ∧ k_ ≠ gb317) (.slice A1_1 l1_1.length c1_1) l1_1) ∧ Aside0 (w'.heap[gb317]? = some (.cells #[.int .i64 a1_0, (.slice A1_1 l1_1.length c1_1)] 60 (0, 0))) ∧ Aside0 (Below w.heap.size w w'))
  case atStart => exact ⟨(0), (by first | rfl | (simp; done) | (simp [*]; done)), H', ⟨Nat.le_refl _⟩, ⟨by (with_reducible repeat (first | apply Kd.V_alloc | apply Kd.V_drewN | apply Kd.V_drew)); exact HO0.out⟩, ⟨by (with_reducible repeat (first | apply Kd.V_alloc | apply Kd.V_drewN | apply Kd.V_drew)); exact HO1_1.out⟩, ⟨by (with_reducible repeat (first | refine blk_drewN ?_ _ | refine blk_drew ?_ | refine blk_alloc ?_ _)); exact BK317.out⟩, ⟨by repeat (first | (with_reducible first | exact HB.out | apply below_alloc | apply pw_below_drewN | apply below_drew1 | refine below_set ?_ GE317.out) | exact HB.out)⟩⟩
  case round =>
   clear H'
   try clear c1
   try clear p2
   obtain ⟨x6_1, rfl, HA, HK1, HO_0, HO_318001, BK317, HB⟩ := hrel
   cases gk with
   | zero => exact absurd HA.out (by simp [tenetref24_into.l0])
   | succ k1 =>
    have H := HA.out
    clear HA
    simp only [tenetref24_into.l0] at H
    by_cases c5 : x6_1 < (l0.length : Int)
    ·rw [if_pos c5] at H
     have c5b0 : decide (x6_1 < (l0.length : Int)) = true := decide_eq_true c5
     clear c5
     (first | rw [c5b0] | (simp only [i64_w, i32_w]; rw [c5b0]) | skip)
     by_cases c6 : 0 ≤ x6_1
     ·rw [if_pos c6] at H
      have c6b0 : decide (0 ≤ x6_1) = true := decide_eq_true c6
      clear c6
      replace H := Option.bind_eq_some_iff.mp H
      obtain ⟨t319, A70, H⟩ := H
      replace H : (if t319 = true then (tenetref24_into.l0 k1 l0 (wrap64 (x6_1 + 1)) a1_0 l1_1) else (tenetref24_into.j1 k1 l0 x6_1 a1_0 l1_1)) = some (r1, r2) := H
      have A7 := Aside0.mk A70
      clear A70
      by_cases c8 : t319 = true
      ·subst c8
       have H1 : (tenetref24_into.l0 k1 l0 (wrap64 (x6_1 + 1)) a1_0 l1_1) = some (r1, r2) := by rw [if_pos rfl] at H; exact H
       clear H
       have H := H1
       clear H1
       have H' := Aside0.mk H
       clear H
       try go_wp2
       have n0_ := Aside0.mk (Kd.V_drew HO_0.out)
       have n1_ := Aside0.mk (Kd.V_drew HO_318001.out)
       have n2_ := Aside0.mk (blk_drew BK317.out)
       have n3_ := Aside0.mk (below_drew1 HB.out)
       clear HO_0
       clear HO_318001
       clear BK317
       clear HB
       have HO_0 := n0_
       have HO_318001 := n1_
       have BK317 := n2_
       have HB := n3_
       clear n0_ n1_ n2_ n3_
       have p318 : 0 ≤ (x6_1 : Int) := of_decide_eq_true (by first | (with_reducible assumption) | assumption)
       have q318 : x6_1 < (l0.length : Int) := of_decide_eq_true (by first | (with_reducible assumption) | assumption)
       obtain ⟨ad318, A318_1, c318_1, e318, hx318_0, hx318_1, hl318_1, hi318_1⟩ := at_T60 (Kd.V_reads' HO_0.out).2.2 x6_1 p318 q318
       cases e318
       obtain ⟨ce318, hce318, hMe318, hcc318⟩ := Kd.V_get HO_0.out z60 x6_1 p318 (by first | exact q318 | exact of_decide_eq_true (by first | (with_reducible assumption) | assumption) | (have e_ := (Kd.V_reads' HO_0.out).1; omega))
       obtain ⟨ua318_1, uc318_1, rfl, ul318_1, ge318_1⟩ := k60_openF hMe318
       have hv318_1 := hcc318 1 _ rfl
       rw [add_field _ _ 1 (by omega)] at hv318_1
       replace hv318_1 := Option.some.inj (hv318_1.symm.trans hx318_1)
       injection hv318_1 with hva_ hvn_ hvc_
       rw [hva_] at ge318_1
       rw [hvc_] at ul318_1
       have HL318_1 := Aside0.mk (show Kd.V (Kd.int .i64) 3 _ w.heap.size _ _ ((rd_T60 l0 x6_1).f1) from Kd.V_mk ul318_1 ge318_1)
       clear hva_ hvn_ hvc_ ge318_1 ul318_1
       clear hcc318 hce318
       have HR318_1 := Aside0.mk hi318_1
       have HC318_1 := Aside0.mk hl318_1
       clear hi318_1 hl318_1
       replace p318 := eq_true p318
       replace q318 := eq_true q318
       refine start_ (n := 14) (S := fun w' => w'.cell? ⟨gb317, 0, none⟩ = some (.int .i64 a1_0) ∧ w'.cell? ⟨gb317, 1, none⟩ = some (.slice A1_1 l1_1.length c1_1) ∧ w'.cell? (ad318.add ((x6_1).toNat * 2)) = some (.int .i64 ((rd_T60 l0 x6_1).f0)) ∧ w'.cell? ⟨(ad318.add ((x6_1).toNat * 2)).block, (ad318.add ((x6_1).toNat * 2)).off + 1, none⟩ = some (.slice A318_1 ((rd_T60 l0 x6_1).f1).length c318_1)) (ds := []) #[false, false, false, false, false, false, false, false, false, false, false, false, false, false] (by kernel_rfl) rfl rfl ⟨(blk_cell BK317.out 0).trans rfl, (blk_cell BK317.out 1).trans rfl, hx318_0, hx318_1⟩ (fun hHeld => ?_); refine with_tabW tenetref24_into.tab2 tenetref24_into.bits2 (fun HT_ HW_ => ?_)
       generalize wr.drew = w9 at HO_0 HO_318001 BK317 HB HL318_1 HR318_1 hx318_0 hx318_1 hHeld ⊢
       refine pure_ (i := 0) (N := some 8) (v := ?_) (a' := ?_) #[true, false, false, false, false, false, false, false, false, false, false, false, false, false] rfl rfl (any_of HT_.out (by kernel_rfl)) (fun _ _ _ h => h) (Or.inl ⟨by rfl, ?_⟩) ?_ ?_
       rotate_left
       ·intro w'
        go_simp
        with_reducible rfl
       rotate_left
       ·simp only [Act.put, List.setIfInBounds_toArray, List.set_cons_zero, List.set_cons_succ, i64_w, i32_w]
        rfl
       refine pure_ (i := 1) (N := some 9) (v := ?_) (a' := ?_) #[true, true, false, false, false, false, false, false, false, false, false, false, false, false] rfl rfl (any_of HT_.out (by kernel_rfl)) (fun _ _ _ h => h) (Or.inl ⟨by rfl, ?_⟩) ?_ ?_
       rotate_left
       ·intro w'
        go_simp
        with_reducible rfl
       rotate_left
       ·simp only [Act.put, List.setIfInBounds_toArray, List.set_cons_zero, List.set_cons_succ, i64_w, i32_w]
        rfl
       refine pure_ (i := 2) (N := some 10) (v := ?_) (a' := ?_) #[true, true, true, false, false, false, false, false, false, false, false, false, false, false] rfl rfl (any_of HT_.out (by kernel_rfl)) (fun _ _ _ h => h) (Or.inl ⟨by rfl, ?_⟩) ?_ ?_
       rotate_left
       ·intro w'
        go_simp
        with_reducible rfl
       rotate_left
       ·simp only [Act.put, List.setIfInBounds_toArray, List.set_cons_zero, List.set_cons_succ, i64_w, i32_w]
        rfl
       refine pure_ (i := 3) (N := some 11) (v := ?_) (a' := ?_) #[true, true, true, true, false, false, false, false, false, false, false, false, false, false] rfl rfl (any_of HT_.out (by kernel_rfl)) (fun _ _ _ h => h) (Or.inl ⟨by rfl, ?_⟩) ?_ ?_
       rotate_left
       ·intro w'
        go_simp
        with_reducible rfl
       rotate_left
       ·simp only [Act.put, List.setIfInBounds_toArray, List.set_cons_zero, List.set_cons_succ, i64_w, i32_w]
        rfl
       refine pure_ (i := 4) (N := some 12) (v := ?_) (a' := ?_) #[true, true, true, true, true, false, false, false, false, false, false, false, false, false] rfl rfl (any_of HT_.out (by kernel_rfl)) (fun _ _ _ h => h) (Or.inl ⟨by rfl, ?_⟩) ?_ ?_
       rotate_left
       ·intro w'
        go_simp
        with_reducible rfl
       rotate_left
       ·simp only [Act.put, List.setIfInBounds_toArray, List.set_cons_zero, List.set_cons_succ, i64_w, i32_w]
        rfl
       refine pure_ (i := 5) (N := some 13) (v := ?_) (a' := ?_) #[true, true, true, true, true, true, false, false, false, false, false, false, false, false] rfl rfl (any_of HT_.out (by kernel_rfl)) (fun _ _ _ h => h) (Or.inl ⟨by rfl, ?_⟩) ?_ ?_
       rotate_left
       ·intro w'
        go_simp
        with_reducible rfl
       rotate_left
       ·simp only [Act.put, List.setIfInBounds_toArray, List.set_cons_zero, List.set_cons_succ, i64_w, i32_w]
        rfl
       refine pure_ (i := 6) (N := some 14) (v := ?_) (a' := ?_) #[true, true, true, true, true, true, true, false, false, false, false, false, false, false] rfl rfl (any_of HT_.out (by kernel_rfl)) (fun _ _ _ h => h) (Or.inl ⟨by rfl, ?_⟩) ?_ ?_
       rotate_left
       ·intro w'
        go_simp
        with_reducible rfl
       rotate_left
       ·simp only [Act.put, List.setIfInBounds_toArray, List.set_cons_zero, List.set_cons_succ, i64_w, i32_w]
        rfl
       refine pure_ (i := 7) (N := some 15) (v := ?_) (a' := ?_) #[true, true, true, true, true, true, true, true, false, false, false, false, false, false] rfl rfl (any_of HT_.out (by kernel_rfl)) (fun _ _ _ h => h) (Or.inl ⟨by rfl, ?_⟩) ?_ ?_
       rotate_left
       ·intro w'
        go_simp
        with_reducible rfl
       rotate_left
       ·simp only [Act.put, List.setIfInBounds_toArray, List.set_cons_zero, List.set_cons_succ, i64_w, i32_w]
        rfl
       refine pure_ (i := 8) (N := some 16) (v := ?_) (a' := ?_) #[true, true, true, true, true, true, true, true, true, false, false, false, false, false] rfl rfl (any_of HT_.out (by kernel_rfl)) (fun _ _ _ h => h) (Or.inl ⟨by rfl, ?_⟩) ?_ ?_
       rotate_left
       ·intro w'
        go_simp
        with_reducible rfl
       rotate_left
       ·simp only [Act.put, List.setIfInBounds_toArray, List.set_cons_zero, List.set_cons_succ, i64_w, i32_w]
        rfl
       refine pure_ (i := 10) (N := some 18) (v := ?_) (a' := ?_) #[true, true, true, true, true, true, true, true, true, false, true, false, false, false] rfl rfl (any_of HT_.out (by kernel_rfl)) (fun _ _ _ h => h) (Or.inl ⟨by rfl, ?_⟩) ?_ ?_
       rotate_left
       ·intro w'
        go_simp
        with_reducible rfl
       rotate_left
       ·simp only [Act.put, List.setIfInBounds_toArray, List.set_cons_zero, List.set_cons_succ, i64_w, i32_w]
        rfl
       refine take_ (i := 9) (N := some 17) (v := ?_) (a' := ?_) #[true, true, true, true, true, true, true, true, true, true, true, false, false, false] rfl rfl (take_ofW HT_.out HW_.out (by kernel_rfl)) (fun _ _ _ h => h) (Or.inl ⟨by rfl, ?_⟩) hHeld ?_ ?_
       rotate_left
       ·rintro w' ⟨s0, s1, s2, s3⟩
        go_simp
        with_reducible rfl
       rotate_left
       ·simp only [Act.put, List.setIfInBounds_toArray, List.set_cons_zero, List.set_cons_succ, i64_w, i32_w]
        rfl
       refine take_ (i := 11) (N := some 19) (v := ?_) (a' := ?_) #[true, true, true, true, true, true, true, true, true, true, true, true, false, false] rfl rfl (take_ofW HT_.out HW_.out (by kernel_rfl)) (fun _ _ _ h => h) (Or.inl ⟨by rfl, ?_⟩) hHeld ?_ ?_
       rotate_left
       ·rintro w' ⟨s0, s1, s2, s3⟩
        go_simp
        with_reducible rfl
       rotate_left
       ·simp only [Act.put, List.setIfInBounds_toArray, List.set_cons_zero, List.set_cons_succ, i64_w, i32_w]
        rfl
       refine one_ (i := 12) (N := some 20) #[true, true, true, true, true, true, true, true, true, true, true, true, true, false] rfl rfl (one_of HT_.out (by kernel_rfl)) (by decide) (fun K hK => ?_)
       refine goes_ Try.func81 (by kernel_rfl) rfl #[.slice A318_1 ((rd_T60 l0 x6_1).f1).length c318_1, .slice A1_1 l1_1.length c1_1] (by rfl) rfl rfl (by (try simp only [List.map_toArray, List.map_cons, List.map_nil]); first | done | rfl | (simp only [List.length_drop, List.length_take]; rfl)) ?_
       with_reducible refine (tenetref24_less.calls k1 _ _ ((rd_T60 l0 x6_1).f1) _ _ l1_1 true _ ?side1 ?side2 ?side3 ?side4 A7.out).mono ?_
       (case side1 => repeat (first | exact (by repeat (first | (with_reducible exact HR318_1.out) | (with_reducible refine Kd.C_alloc ?_ _) | (with_reducible refine Kd.C_drewN ?_ _) | (with_reducible refine Kd.C_drew ?_) | exact HR318_1.out)) | (with_reducible refine Kd.C_alloc ?_ _) | (with_reducible refine Kd.C_drewN ?_ _) | (with_reducible refine Kd.C_drew ?_)))
       (case side2 => exact HC318_1.out)
       (case side3 => repeat (first | exact (Kd.V_reads' HO_318001.out).2.2 | (with_reducible refine Kd.C_alloc ?_ _) | (with_reducible refine Kd.C_drewN ?_ _) | (with_reducible refine Kd.C_drew ?_)))
       (case side4 => exact (Kd.V_reads' HO_318001.out).2.1)
       rintro e w' ⟨rfl, ⟨nd, rfl⟩⟩
       refine ⟨_, rfl, ?_⟩
       refine hK.out _ _ ⟨(blk_cell BK317.out 0).trans rfl, (blk_cell BK317.out 1).trans rfl, hHeld.2.2.1, hHeld.2.2.2⟩ (fun hHeld => ?_)
       clear hK K
       refine norm_ (a' := ?_) ?_ ?_
       rotate_left
       ·show Act.put _ (some 20) _ = _
        simp only [Act.put, List.setIfInBounds_toArray, List.set_cons_zero, List.set_cons_succ, i64_w, i32_w]
        rfl
       refine pure_ (i := 13) (N := some 21) (v := ?_) (a' := ?_) #[true, true, true, true, true, true, true, true, true, true, true, true, true, true] rfl rfl (any_of HT_.out (by kernel_rfl)) (fun _ _ _ h => h) (Or.inl ⟨by rfl, ?_⟩) ?_ ?_
       rotate_left
       ·intro w'
        go_simp
        with_reducible rfl
       rotate_left
       ·simp only [Act.put, List.setIfInBounds_toArray, List.set_cons_zero, List.set_cons_succ, i64_w, i32_w]
        rfl
       refine done_ (done_of HT_.out (by kernel_rfl)) ?_
       try go_wp2
       go_roundg k1
       case measure => have := HK1.out; omega
       case rel => exact ⟨(wrap64 (x6_1 + 1)), (by first | rfl | (simp; done) | (simp [*]; done)), H', ⟨by have := HK1.out; omega⟩, ⟨by (with_reducible repeat (first | apply Kd.V_alloc | apply Kd.V_drewN | apply Kd.V_drew)); exact HO_0.out⟩, ⟨by (with_reducible repeat (first | apply Kd.V_alloc | apply Kd.V_drewN | apply Kd.V_drew)); exact HO_318001.out⟩, ⟨by (with_reducible repeat (first | refine blk_drewN ?_ _ | refine blk_drew ?_ | refine blk_alloc ?_ _)); exact BK317.out⟩, ⟨by repeat (first | (with_reducible first | exact HB.out | apply below_alloc | apply pw_below_drewN | apply below_drew1 | refine below_set ?_ GE317.out) | exact HB.out)⟩⟩
      ·replace c8 := Bool.eq_false_iff.mpr c8
       subst c8
       have H1 : (tenetref24_into.j1 k1 l0 x6_1 a1_0 l1_1) = some (r1, r2) := by rw [if_neg (show ¬ (false = true) by decide)] at H; exact H
       clear H
       have H := H1
       clear H1
       have H' := Aside0.mk H
       clear H
       try go_wp2
       have n0_ := Aside0.mk (Kd.V_drew HO_0.out)
       have n1_ := Aside0.mk (Kd.V_drew HO_318001.out)
       have n2_ := Aside0.mk (blk_drew BK317.out)
       have n3_ := Aside0.mk (below_drew1 HB.out)
       clear HO_0
       clear HO_318001
       clear BK317
       clear HB
       have HO_0 := n0_
       have HO_318001 := n1_
       have BK317 := n2_
       have HB := n3_
       clear n0_ n1_ n2_ n3_
       have p318 : 0 ≤ (x6_1 : Int) := of_decide_eq_true (by first | (with_reducible assumption) | assumption)
       have q318 : x6_1 < (l0.length : Int) := of_decide_eq_true (by first | (with_reducible assumption) | assumption)
       obtain ⟨ad318, A318_1, c318_1, e318, hx318_0, hx318_1, hl318_1, hi318_1⟩ := at_T60 (Kd.V_reads' HO_0.out).2.2 x6_1 p318 q318
       cases e318
       obtain ⟨ce318, hce318, hMe318, hcc318⟩ := Kd.V_get HO_0.out z60 x6_1 p318 (by first | exact q318 | exact of_decide_eq_true (by first | (with_reducible assumption) | assumption) | (have e_ := (Kd.V_reads' HO_0.out).1; omega))
       obtain ⟨ua318_1, uc318_1, rfl, ul318_1, ge318_1⟩ := k60_openF hMe318
       have hv318_1 := hcc318 1 _ rfl
       rw [add_field _ _ 1 (by omega)] at hv318_1
       replace hv318_1 := Option.some.inj (hv318_1.symm.trans hx318_1)
       injection hv318_1 with hva_ hvn_ hvc_
       rw [hva_] at ge318_1
       rw [hvc_] at ul318_1
       have HL318_1 := Aside0.mk (show Kd.V (Kd.int .i64) 3 _ w.heap.size _ _ ((rd_T60 l0 x6_1).f1) from Kd.V_mk ul318_1 ge318_1)
       clear hva_ hvn_ hvc_ ge318_1 ul318_1
       clear hcc318 hce318
       have HR318_1 := Aside0.mk hi318_1
       have HC318_1 := Aside0.mk hl318_1
       clear hi318_1 hl318_1
       replace p318 := eq_true p318
       replace q318 := eq_true q318
       refine start_ (n := 14) (S := fun w' => w'.cell? ⟨gb317, 0, none⟩ = some (.int .i64 a1_0) ∧ w'.cell? ⟨gb317, 1, none⟩ = some (.slice A1_1 l1_1.length c1_1) ∧ w'.cell? (ad318.add ((x6_1).toNat * 2)) = some (.int .i64 ((rd_T60 l0 x6_1).f0)) ∧ w'.cell? ⟨(ad318.add ((x6_1).toNat * 2)).block, (ad318.add ((x6_1).toNat * 2)).off + 1, none⟩ = some (.slice A318_1 ((rd_T60 l0 x6_1).f1).length c318_1)) (ds := []) #[false, false, false, false, false, false, false, false, false, false, false, false, false, false] (by kernel_rfl) rfl rfl ⟨(blk_cell BK317.out 0).trans rfl, (blk_cell BK317.out 1).trans rfl, hx318_0, hx318_1⟩ (fun hHeld => ?_); refine with_tabW tenetref24_into.tab2 tenetref24_into.bits2 (fun HT_ HW_ => ?_)
       generalize wr.drew = w10 at HO_0 HO_318001 BK317 HB HL318_1 HR318_1 hx318_0 hx318_1 hHeld ⊢
       refine pure_ (i := 0) (N := some 8) (v := ?_) (a' := ?_) #[true, false, false, false, false, false, false, false, false, false, false, false, false, false] rfl rfl (any_of HT_.out (by kernel_rfl)) (fun _ _ _ h => h) (Or.inl ⟨by rfl, ?_⟩) ?_ ?_
       rotate_left
       ·intro w'
        go_simp
        with_reducible rfl
       rotate_left
       ·simp only [Act.put, List.setIfInBounds_toArray, List.set_cons_zero, List.set_cons_succ, i64_w, i32_w]
        rfl
       refine pure_ (i := 1) (N := some 9) (v := ?_) (a' := ?_) #[true, true, false, false, false, false, false, false, false, false, false, false, false, false] rfl rfl (any_of HT_.out (by kernel_rfl)) (fun _ _ _ h => h) (Or.inl ⟨by rfl, ?_⟩) ?_ ?_
       rotate_left
       ·intro w'
        go_simp
        with_reducible rfl
       rotate_left
       ·simp only [Act.put, List.setIfInBounds_toArray, List.set_cons_zero, List.set_cons_succ, i64_w, i32_w]
        rfl
       refine pure_ (i := 2) (N := some 10) (v := ?_) (a' := ?_) #[true, true, true, false, false, false, false, false, false, false, false, false, false, false] rfl rfl (any_of HT_.out (by kernel_rfl)) (fun _ _ _ h => h) (Or.inl ⟨by rfl, ?_⟩) ?_ ?_
       rotate_left
       ·intro w'
        go_simp
        with_reducible rfl
       rotate_left
       ·simp only [Act.put, List.setIfInBounds_toArray, List.set_cons_zero, List.set_cons_succ, i64_w, i32_w]
        rfl
       refine pure_ (i := 3) (N := some 11) (v := ?_) (a' := ?_) #[true, true, true, true, false, false, false, false, false, false, false, false, false, false] rfl rfl (any_of HT_.out (by kernel_rfl)) (fun _ _ _ h => h) (Or.inl ⟨by rfl, ?_⟩) ?_ ?_
       rotate_left
       ·intro w'
        go_simp
        with_reducible rfl
       rotate_left
       ·simp only [Act.put, List.setIfInBounds_toArray, List.set_cons_zero, List.set_cons_succ, i64_w, i32_w]
        rfl
       refine pure_ (i := 4) (N := some 12) (v := ?_) (a' := ?_) #[true, true, true, true, true, false, false, false, false, false, false, false, false, false] rfl rfl (any_of HT_.out (by kernel_rfl)) (fun _ _ _ h => h) (Or.inl ⟨by rfl, ?_⟩) ?_ ?_
       rotate_left
       ·intro w'
        go_simp
        with_reducible rfl
       rotate_left
       ·simp only [Act.put, List.setIfInBounds_toArray, List.set_cons_zero, List.set_cons_succ, i64_w, i32_w]
        rfl
       refine pure_ (i := 5) (N := some 13) (v := ?_) (a' := ?_) #[true, true, true, true, true, true, false, false, false, false, false, false, false, false] rfl rfl (any_of HT_.out (by kernel_rfl)) (fun _ _ _ h => h) (Or.inl ⟨by rfl, ?_⟩) ?_ ?_
       rotate_left
       ·intro w'
        go_simp
        with_reducible rfl
       rotate_left
       ·simp only [Act.put, List.setIfInBounds_toArray, List.set_cons_zero, List.set_cons_succ, i64_w, i32_w]
        rfl
       refine pure_ (i := 6) (N := some 14) (v := ?_) (a' := ?_) #[true, true, true, true, true, true, true, false, false, false, false, false, false, false] rfl rfl (any_of HT_.out (by kernel_rfl)) (fun _ _ _ h => h) (Or.inl ⟨by rfl, ?_⟩) ?_ ?_
       rotate_left
       ·intro w'
        go_simp
        with_reducible rfl
       rotate_left
       ·simp only [Act.put, List.setIfInBounds_toArray, List.set_cons_zero, List.set_cons_succ, i64_w, i32_w]
        rfl
       refine pure_ (i := 7) (N := some 15) (v := ?_) (a' := ?_) #[true, true, true, true, true, true, true, true, false, false, false, false, false, false] rfl rfl (any_of HT_.out (by kernel_rfl)) (fun _ _ _ h => h) (Or.inl ⟨by rfl, ?_⟩) ?_ ?_
       rotate_left
       ·intro w'
        go_simp
        with_reducible rfl
       rotate_left
       ·simp only [Act.put, List.setIfInBounds_toArray, List.set_cons_zero, List.set_cons_succ, i64_w, i32_w]
        rfl
       refine pure_ (i := 8) (N := some 16) (v := ?_) (a' := ?_) #[true, true, true, true, true, true, true, true, true, false, false, false, false, false] rfl rfl (any_of HT_.out (by kernel_rfl)) (fun _ _ _ h => h) (Or.inl ⟨by rfl, ?_⟩) ?_ ?_
       rotate_left
       ·intro w'
        go_simp
        with_reducible rfl
       rotate_left
       ·simp only [Act.put, List.setIfInBounds_toArray, List.set_cons_zero, List.set_cons_succ, i64_w, i32_w]
        rfl
       refine pure_ (i := 10) (N := some 18) (v := ?_) (a' := ?_) #[true, true, true, true, true, true, true, true, true, false, true, false, false, false] rfl rfl (any_of HT_.out (by kernel_rfl)) (fun _ _ _ h => h) (Or.inl ⟨by rfl, ?_⟩) ?_ ?_
       rotate_left
       ·intro w'
        go_simp
        with_reducible rfl
       rotate_left
       ·simp only [Act.put, List.setIfInBounds_toArray, List.set_cons_zero, List.set_cons_succ, i64_w, i32_w]
        rfl
       refine take_ (i := 9) (N := some 17) (v := ?_) (a' := ?_) #[true, true, true, true, true, true, true, true, true, true, true, false, false, false] rfl rfl (take_ofW HT_.out HW_.out (by kernel_rfl)) (fun _ _ _ h => h) (Or.inl ⟨by rfl, ?_⟩) hHeld ?_ ?_
       rotate_left
       ·rintro w' ⟨s0, s1, s2, s3⟩
        go_simp
        with_reducible rfl
       rotate_left
       ·simp only [Act.put, List.setIfInBounds_toArray, List.set_cons_zero, List.set_cons_succ, i64_w, i32_w]
        rfl
       refine take_ (i := 11) (N := some 19) (v := ?_) (a' := ?_) #[true, true, true, true, true, true, true, true, true, true, true, true, false, false] rfl rfl (take_ofW HT_.out HW_.out (by kernel_rfl)) (fun _ _ _ h => h) (Or.inl ⟨by rfl, ?_⟩) hHeld ?_ ?_
       rotate_left
       ·rintro w' ⟨s0, s1, s2, s3⟩
        go_simp
        with_reducible rfl
       rotate_left
       ·simp only [Act.put, List.setIfInBounds_toArray, List.set_cons_zero, List.set_cons_succ, i64_w, i32_w]
        rfl
       refine one_ (i := 12) (N := some 20) #[true, true, true, true, true, true, true, true, true, true, true, true, true, false] rfl rfl (one_of HT_.out (by kernel_rfl)) (by decide) (fun K hK => ?_)
       refine goes_ Try.func81 (by kernel_rfl) rfl #[.slice A318_1 ((rd_T60 l0 x6_1).f1).length c318_1, .slice A1_1 l1_1.length c1_1] (by rfl) rfl rfl (by (try simp only [List.map_toArray, List.map_cons, List.map_nil]); first | done | rfl | (simp only [List.length_drop, List.length_take]; rfl)) ?_
       with_reducible refine (tenetref24_less.calls k1 _ _ ((rd_T60 l0 x6_1).f1) _ _ l1_1 false _ ?side1 ?side2 ?side3 ?side4 A7.out).mono ?_
       (case side1 => repeat (first | exact (by repeat (first | (with_reducible exact HR318_1.out) | (with_reducible refine Kd.C_alloc ?_ _) | (with_reducible refine Kd.C_drewN ?_ _) | (with_reducible refine Kd.C_drew ?_) | exact HR318_1.out)) | (with_reducible refine Kd.C_alloc ?_ _) | (with_reducible refine Kd.C_drewN ?_ _) | (with_reducible refine Kd.C_drew ?_)))
       (case side2 => exact HC318_1.out)
       (case side3 => repeat (first | exact (Kd.V_reads' HO_318001.out).2.2 | (with_reducible refine Kd.C_alloc ?_ _) | (with_reducible refine Kd.C_drewN ?_ _) | (with_reducible refine Kd.C_drew ?_)))
       (case side4 => exact (Kd.V_reads' HO_318001.out).2.1)
       rintro e w' ⟨rfl, ⟨nd, rfl⟩⟩
       refine ⟨_, rfl, ?_⟩
       refine hK.out _ _ ⟨(blk_cell BK317.out 0).trans rfl, (blk_cell BK317.out 1).trans rfl, hHeld.2.2.1, hHeld.2.2.2⟩ (fun hHeld => ?_)
       clear hK K
       refine norm_ (a' := ?_) ?_ ?_
       rotate_left
       ·show Act.put _ (some 20) _ = _
        simp only [Act.put, List.setIfInBounds_toArray, List.set_cons_zero, List.set_cons_succ, i64_w, i32_w]
        rfl
       refine pure_ (i := 13) (N := some 21) (v := ?_) (a' := ?_) #[true, true, true, true, true, true, true, true, true, true, true, true, true, true] rfl rfl (any_of HT_.out (by kernel_rfl)) (fun _ _ _ h => h) (Or.inl ⟨by rfl, ?_⟩) ?_ ?_
       rotate_left
       ·intro w'
        go_simp
        with_reducible rfl
       rotate_left
       ·simp only [Act.put, List.setIfInBounds_toArray, List.set_cons_zero, List.set_cons_succ, i64_w, i32_w]
        rfl
       refine done_ (done_of HT_.out (by kernel_rfl)) ?_
       try go_wp2
       go_meet
       case rel => exact ⟨_, (x6_1), (by first | rfl | (simp; done) | (simp [*]; done)), H', ⟨by have := HK1.out; first | omega | exact Nat.le_refl _⟩, ⟨by (with_reducible repeat (first | apply Kd.V_alloc | apply Kd.V_drewN | apply Kd.V_drew)); exact HO_0.out⟩, ⟨by (with_reducible repeat (first | apply Kd.V_alloc | apply Kd.V_drewN | apply Kd.V_drew)); exact HO_318001.out⟩, ⟨by (with_reducible repeat (first | refine blk_drewN ?_ _ | refine blk_drew ?_ | refine blk_alloc ?_ _)); exact BK317.out⟩, ⟨by repeat (first | (with_reducible first | exact HB.out | apply below_alloc | apply pw_below_drewN | apply below_drew1 | refine below_set ?_ GE317.out) | exact HB.out)⟩⟩
     ·rw [if_neg c6] at H
      exact absurd H (by simp)
    ·rw [if_neg c5] at H
     have c5b0 : decide (x6_1 < (l0.length : Int)) = false := decide_eq_false c5
     clear c5
     (first | rw [c5b0] | (simp only [i64_w, i32_w]; rw [c5b0]) | skip)
     have H' := Aside0.mk H
     clear H
     try go_wp2
     have n0_ := Aside0.mk (Kd.V_drew HO_0.out)
     have n1_ := Aside0.mk (Kd.V_drew HO_318001.out)
     have n2_ := Aside0.mk (blk_drew BK317.out)
     have n3_ := Aside0.mk (below_drew1 HB.out)
     clear HO_0
     clear HO_318001
     clear BK317
     clear HB
     have HO_0 := n0_
     have HO_318001 := n1_
     have BK317 := n2_
     have HB := n3_
     clear n0_ n1_ n2_ n3_
     refine start_ (n := 14) (S := fun w' => True) (ds := []) #[false, false, false, false, false, false, false, false, false, false, false, false, false, false] (by kernel_rfl) rfl rfl trivial (fun hHeld => ?_); refine with_tabW tenetref24_into.tab2 tenetref24_into.bits2 (fun HT_ HW_ => ?_)
     generalize wr.drew = w11 at HO_0 HO_318001 BK317 HB hHeld ⊢
     refine pure_ (i := 0) (N := some 8) (v := ?_) (a' := ?_) #[true, false, false, false, false, false, false, false, false, false, false, false, false, false] rfl rfl (any_of HT_.out (by kernel_rfl)) (fun _ _ _ h => h) (Or.inl ⟨by rfl, ?_⟩) ?_ ?_
     rotate_left
     ·intro w'
      go_simp
      with_reducible rfl
     rotate_left
     ·simp only [Act.put, List.setIfInBounds_toArray, List.set_cons_zero, List.set_cons_succ, i64_w, i32_w]
      rfl
     refine pure_ (i := 1) (N := some 9) (v := ?_) (a' := ?_) #[true, true, false, false, false, false, false, false, false, false, false, false, false, false] rfl rfl (any_of HT_.out (by kernel_rfl)) (fun _ _ _ h => h) (Or.inl ⟨by rfl, ?_⟩) ?_ ?_
     rotate_left
     ·intro w'
      go_simp
      with_reducible rfl
     rotate_left
     ·simp only [Act.put, List.setIfInBounds_toArray, List.set_cons_zero, List.set_cons_succ, i64_w, i32_w]
      rfl
     refine pure_ (i := 2) (N := some 10) (v := ?_) (a' := ?_) #[true, true, true, false, false, false, false, false, false, false, false, false, false, false] rfl rfl (any_of HT_.out (by kernel_rfl)) (fun _ _ _ h => h) (Or.inl ⟨by rfl, ?_⟩) ?_ ?_
     rotate_left
     ·intro w'
      go_simp
      with_reducible rfl
     rotate_left
     ·simp only [Act.put, List.setIfInBounds_toArray, List.set_cons_zero, List.set_cons_succ, i64_w, i32_w]
      rfl
     refine pure_ (i := 3) (N := some 11) (v := ?_) (a' := ?_) #[true, true, true, true, false, false, false, false, false, false, false, false, false, false] rfl rfl (any_of HT_.out (by kernel_rfl)) (fun _ _ _ h => h) (Or.inl ⟨by rfl, ?_⟩) ?_ ?_
     rotate_left
     ·intro w'
      go_simp
      with_reducible rfl
     rotate_left
     ·simp only [Act.put, List.setIfInBounds_toArray, List.set_cons_zero, List.set_cons_succ, i64_w, i32_w]
      rfl
     refine pure_ (i := 4) (N := some 12) (v := ?_) (a' := ?_) #[true, true, true, true, true, false, false, false, false, false, false, false, false, false] rfl rfl (any_of HT_.out (by kernel_rfl)) (fun _ _ _ h => h) (Or.inl ⟨by rfl, ?_⟩) ?_ ?_
     rotate_left
     ·intro w'
      go_simp
      with_reducible rfl
     rotate_left
     ·simp only [Act.put, List.setIfInBounds_toArray, List.set_cons_zero, List.set_cons_succ, i64_w, i32_w]
      rfl
     refine pure_ (i := 5) (N := some 13) (v := undef) (a' := ?_) #[true, true, true, true, true, true, false, false, false, false, false, false, false, false] rfl rfl (any_of HT_.out (by kernel_rfl)) (fun _ _ _ h => h) (Or.inr ⟨by rfl, rfl⟩) ?_ ?_
     rotate_left
     ·simp only [Act.put, List.setIfInBounds_toArray, List.set_cons_zero, List.set_cons_succ, i64_w, i32_w]
      rfl
     refine pure_ (i := 6) (N := some 14) (v := undef) (a' := ?_) #[true, true, true, true, true, true, true, false, false, false, false, false, false, false] rfl rfl (any_of HT_.out (by kernel_rfl)) (fun _ _ _ h => h) (Or.inr ⟨by rfl, rfl⟩) ?_ ?_
     rotate_left
     ·simp only [Act.put, List.setIfInBounds_toArray, List.set_cons_zero, List.set_cons_succ, i64_w, i32_w]
      rfl
     refine pure_ (i := 7) (N := some 15) (v := undef) (a' := ?_) #[true, true, true, true, true, true, true, true, false, false, false, false, false, false] rfl rfl (any_of HT_.out (by kernel_rfl)) (fun _ _ _ h => h) (Or.inr ⟨by rfl, rfl⟩) ?_ ?_
     rotate_left
     ·simp only [Act.put, List.setIfInBounds_toArray, List.set_cons_zero, List.set_cons_succ, i64_w, i32_w]
      rfl
     refine pure_ (i := 8) (N := some 16) (v := undef) (a' := ?_) #[true, true, true, true, true, true, true, true, true, false, false, false, false, false] rfl rfl (any_of HT_.out (by kernel_rfl)) (fun _ _ _ h => h) (Or.inr ⟨by rfl, rfl⟩) ?_ ?_
     rotate_left
     ·simp only [Act.put, List.setIfInBounds_toArray, List.set_cons_zero, List.set_cons_succ, i64_w, i32_w]
      rfl
     refine pure_ (i := 9) (N := some 17) (v := undef) (a' := ?_) #[true, true, true, true, true, true, true, true, true, true, false, false, false, false] rfl rfl (any_of HT_.out (by kernel_rfl)) (fun _ _ _ h => h) (Or.inr ⟨by rfl, rfl⟩) ?_ ?_
     rotate_left
     ·simp only [Act.put, List.setIfInBounds_toArray, List.set_cons_zero, List.set_cons_succ, i64_w, i32_w]
      rfl
     refine pure_ (i := 10) (N := some 18) (v := undef) (a' := ?_) #[true, true, true, true, true, true, true, true, true, true, true, false, false, false] rfl rfl (any_of HT_.out (by kernel_rfl)) (fun _ _ _ h => h) (Or.inr ⟨by rfl, rfl⟩) ?_ ?_
     rotate_left
     ·simp only [Act.put, List.setIfInBounds_toArray, List.set_cons_zero, List.set_cons_succ, i64_w, i32_w]
      rfl
     refine pure_ (i := 11) (N := some 19) (v := undef) (a' := ?_) #[true, true, true, true, true, true, true, true, true, true, true, true, false, false] rfl rfl (any_of HT_.out (by kernel_rfl)) (fun _ _ _ h => h) (Or.inr ⟨by rfl, rfl⟩) ?_ ?_
     rotate_left
     ·simp only [Act.put, List.setIfInBounds_toArray, List.set_cons_zero, List.set_cons_succ, i64_w, i32_w]
      rfl
     refine pure_ (i := 12) (N := some 20) (v := undef) (a' := ?_) #[true, true, true, true, true, true, true, true, true, true, true, true, true, false] rfl rfl (any_of HT_.out (by kernel_rfl)) (fun _ _ _ h => h) (Or.inr ⟨by rfl, rfl⟩) ?_ ?_
     rotate_left
     ·simp only [Act.put, List.setIfInBounds_toArray, List.set_cons_zero, List.set_cons_succ, i64_w, i32_w]
      rfl
     refine pure_ (i := 13) (N := some 21) (v := ?_) (a' := ?_) #[true, true, true, true, true, true, true, true, true, true, true, true, true, true] rfl rfl (any_of HT_.out (by kernel_rfl)) (fun _ _ _ h => h) (Or.inl ⟨by rfl, ?_⟩) ?_ ?_
     rotate_left
     ·intro w'
      go_simp
      with_reducible rfl
     rotate_left
     ·simp only [Act.put, List.setIfInBounds_toArray, List.set_cons_zero, List.set_cons_succ, i64_w, i32_w]
      rfl
     refine done_ (done_of HT_.out (by kernel_rfl)) ?_
     try go_wp2
     go_meet
     case rel => exact ⟨_, (x6_1), (by first | rfl | (simp; done) | (simp [*]; done)), H', ⟨by have := HK1.out; first | omega | exact Nat.le_refl _⟩, ⟨by (with_reducible repeat (first | apply Kd.V_alloc | apply Kd.V_drewN | apply Kd.V_drew)); exact HO_0.out⟩, ⟨by (with_reducible repeat (first | apply Kd.V_alloc | apply Kd.V_drewN | apply Kd.V_drew)); exact HO_318001.out⟩, ⟨by (with_reducible repeat (first | refine blk_drewN ?_ _ | refine blk_drew ?_ | refine blk_alloc ?_ _)); exact BK317.out⟩, ⟨by repeat (first | (with_reducible first | exact HB.out | apply below_alloc | apply pw_below_drewN | apply below_drew1 | refine below_set ?_ GE317.out) | exact HB.out)⟩⟩
 case rest =>
  clear HC3
  try clear c1
  try clear p2
  try clear c3
  try clear p3
  try clear q3
  try clear hx3
  try clear c5
  try clear c5b0
  try clear c6
  try clear c6b0
  try clear p6
  try clear c8
  try clear c9
  try clear hx318_0
  try clear hx318_1
  try clear p2
  try clear p318
  try clear q318
  obtain ⟨kq, x6_2, rfl, HA, HJ2, HO_0, HO_318001, BK317, HB⟩ := hcut
  cases kq with
  | zero => exact absurd HA.out (by simp [tenetref24_into.j1])
  | succ kj2 =>
   have H := HA.out
   clear HA
   simp only [tenetref24_into.j1] at H
   by_cases c12 : 0 ≤ x6_2
   ·rw [if_pos c12] at H
    have c12b0 := eq_true c12
    have c12b1 : decide (0 ≤ x6_2) = true := decide_eq_true c12
    clear c12
    by_cases c13 : x6_2 ≤ (l0.length : Int)
    ·rw [if_pos c13] at H
     have c13b0 := eq_true c13
     have c13b1 : decide (x6_2 ≤ (l0.length : Int)) = true := decide_eq_true c13
     clear c13
     obtain ⟨y320, hy320⟩ : ∃ y_ : List (S60), y_ = (l0.take (x6_2 : Int).toNat) := ⟨_, rfl⟩
     replace H : (if ([] : List (S60)).length + y320.length < 4398046511104 then ((some (([] : List (S60)) ++ y320 : List (S60))).bind fun y325 => (if x6_2 < (l0.length : Int) then ((tenetref24_same.f kj2 ((rd_T60 l0 x6_2).f1) l1_1).bind fun t329 => (tenetref24_into.j2 kj2 l0 x6_2 y325 t329 a1_0 l1_1)) else (tenetref24_into.j2 kj2 l0 x6_2 y325 false a1_0 l1_1))) else (none)) = some (r1, r2) := by first | (rw [hy320]; with_reducible exact H) | (have H2_ := (Option.bind_some _ _).symm.trans H; rw [hy320]; with_reducible exact H2_) | (have H2_ := (Option.bind_some _ _).symm.trans H; with_reducible exact H2_) | with_reducible exact H | (rw [hy320]; exact H) | exact H
     have Ny320 := Aside0.mk hy320
     clear hy320
     by_cases c14 : ([] : List (S60)).length + y320.length < 4398046511104
     ·rw [if_pos c14] at H
      have LMc14 := Aside0.mk c14
      clear c14
      obtain ⟨y325, hy325⟩ : ∃ y_ : List (S60), y_ = (([] : List (S60)) ++ y320) := ⟨_, rfl⟩
      replace H : (if x6_2 < (l0.length : Int) then ((tenetref24_same.f kj2 ((rd_T60 l0 x6_2).f1) l1_1).bind fun t329 => (tenetref24_into.j2 kj2 l0 x6_2 y325 t329 a1_0 l1_1)) else (tenetref24_into.j2 kj2 l0 x6_2 y325 false a1_0 l1_1)) = some (r1, r2) := by first | (rw [hy325]; with_reducible exact H) | (have H2_ := (Option.bind_some _ _).symm.trans H; rw [hy325]; with_reducible exact H2_) | (have H2_ := (Option.bind_some _ _).symm.trans H; with_reducible exact H2_) | with_reducible exact H | (rw [hy325]; exact H) | exact H
      have Ny325 := Aside0.mk hy325
      clear hy325
      have HC15 := Aside0.mk H
      clear H
      have q16 : (x6_2 : Int) ≤ ((l0.length : Int) : Int) := of_decide_eq_true (by first | (with_reducible assumption) | assumption)
      obtain ⟨i016, hi016, _, hsz16, _⟩ := info_parts info60
      have hroom16 : l0.length ≤ c0 := (Kd.V_reads' HO_0.out).2.1
      have hC16 : Kd.F k60 _ _ A0 l0.length l0 := (Kd.V_at (base := w.heap.size) HO_0.out).2.2
      have hcut16 := cut_to (P := Try.prog) 22 60 .i64 Try.underlying22 hi016 A0 l0.length c0 x6_2 (of_decide_eq_true (by first | (with_reducible assumption) | assumption)) q16 hroom16
      have hr16 := Kd.F_take (m := (x6_2 : Int).toNat) hC16 (by omega)
      have hy16 : y320.length = (x6_2 : Int).toNat := (by rw [Ny320.out, List.length_take]; omega)
      rw [← Ny320.out] at hr16
      rw [← hy16] at hcut16
      have HO324 := Aside0.mk (show Kd.V k60 60 _ w.heap.size _ (.slice A0 y320.length c0) y320 from Kd.V_mk (by omega) hr16)
      have HC324 := Aside0.mk (show y320.length ≤ c0 from by omega)
      clear hr16 hC16 hroom16 hi016 hsz16
      have KY16 := Aside0.mk hy16
      clear hy16
      replace q16 := eq_true q16
      go_upto_region 6 with (first | ((with_reducible refine gate_builtin (b := .append) (xs := #[.tmp 24, .tmp 27]) rfl ?_); at_builtin; refine Kd.N_append_rows k60 (w0 := w) w.heap.size rfl (.tmp 24) (.tmp 27) 22 60 (.agg #[(.int .i64 0), (.slice none 0 0)]) 32 rfl Try.underlying22 info60 rfl (by decide) (by omega) (.slice none 0 0) ([] : List (S60)) y320 _ _ _ (fun k_ => ((P0_ k_ ∨ P1_1_ k_) ∨ w.heap.size ≤ k_) ∧ k_ ≠ gb317) (fun k_ => ((fun k_ => ((P0_ k_ ∨ P1_1_ k_) ∨ w.heap.size ≤ k_) ∧ k_ ≠ gb317)) k_ ∧ some k_ ≠ (.slice none 0 0 : Value).ownBlock) rfl rfl ?aO ?aR (fun _ hk => hk) ?aF ?aB ?aS ?aL ?_; (case aR => exact (by skip; exact Kd.V_F (Kd.V_mono (ok' := (fun k_ => ((fun k_ => ((P0_ k_ ∨ P1_1_ k_) ∨ w.heap.size ≤ k_) ∧ k_ ≠ gb317)) k_ ∧ some k_ ≠ (.slice none 0 0 : Value).ownBlock)) (HO324.out) (fun k_ hk => ⟨⟨hk.1, hk.2⟩, (by simp [Value.ownBlock])⟩)))); (case aB => exact (by repeat (first | (with_reducible first | exact HB.out | apply below_alloc | apply pw_below_drewN | apply below_drew1 | refine below_set ?_ GE317.out) | exact HB.out))); (case aF => exact (fun k_ hk => ⟨(.inr (Nat.le_trans (below_size (by repeat (first | (with_reducible first | exact HB.out | apply below_alloc | apply pw_below_drewN | apply below_drew1 | refine below_set ?_ GE317.out) | exact HB.out))) hk)), Kd.freshB (g := gb317) (o := .cells #[.int .i64 a1_0, .slice A1_1 l1_1.length c1_1] 60 (0, 0)) (by (with_reducible repeat (first | refine blk_drewN ?_ _ | refine blk_drew ?_ | refine blk_alloc ?_ _)); exact BK317.out) k_ hk⟩)); (case aO => exact ((Kd.N_nil _ _ _ _ (fun k_ => ((P0_ k_ ∨ P1_1_ k_) ∨ w.heap.size ≤ k_) ∧ k_ ≠ gb317)))); (case aS => exact (below_size (by repeat (first | (with_reducible first | exact HB.out | apply below_alloc | apply pw_below_drewN | apply below_drew1 | refine below_set ?_ GE317.out) | exact HB.out)))); (case aL => have := LMc14.out; omega); intro v326 w17 ho hb hg hat; rw [← Ny325.out] at ho; have n0_ := Aside0.mk (Kd.V_afterv (Kd.V_apart_nil (by (with_reducible repeat (first | apply Kd.V_alloc | apply Kd.V_drewN | apply Kd.V_drew)); exact HO_0.out)) hg hat); have n1_ := Aside0.mk (Kd.V_afterv (Kd.V_apart_nil (by (with_reducible repeat (first | apply Kd.V_alloc | apply Kd.V_drewN | apply Kd.V_drew)); exact HO_318001.out)) hg hat); have n2_ := Aside0.mk (blk_grown (g := gb317) (o := .cells #[.int .i64 a1_0, .slice A1_1 l1_1.length c1_1] 60 (0, 0)) (by (with_reducible repeat (first | refine blk_drewN ?_ _ | refine blk_drew ?_ | refine blk_alloc ?_ _)); exact BK317.out) hg (by simp [Value.ownBlock])); have n3_ := Aside0.mk (Kd.V_afterv (Kd.V_apart_nil (by (with_reducible repeat (first | apply Kd.V_alloc | apply Kd.V_drewN | apply Kd.V_drew)); exact HO324.out)) hg hat); have n4_ := Aside0.mk (hb); have n5_ := Aside0.mk (ho); clear HO_0; clear HO_318001; clear BK317; clear HO324; clear HB; have HO_0 := n0_; have HO_318001 := n1_; have BK317 := n2_; have HO324 := n3_; have HB := n4_; have HO327 := n5_; clear n0_ n1_ n2_ n3_ n4_ n5_; clear ho hb hg hat))
      (try simp only [Act.put, List.setIfInBounds_toArray, List.set_cons_zero, List.set_cons_succ])
      go_cut [42] (fun v42 wc => ∃ (kq : Nat) (x42_14 : Bool), v42 = .bool x42_14 ∧ Aside0 (tenetref24_into.j2 kq l0 x6_2 y325 x42_14 a1_0 l1_1 = some (r1, r2)) ∧ Aside0 (kq ≤ kj2) ∧ Aside0 (Kd.V k60 60 wc w.heap.size (fun k_ => ((P0_ k_ ∨ P1_1_ k_) ∨ w.heap.size ≤ k_) ∧ some k_ ≠ (v326 : Value).ownBlock ∧ k_ ≠ gb317) (.slice A0 l0.length c0) l0) ∧ Aside0 (Kd.N k60 60 wc w.heap.size (fun k_ => ((P0_ k_ ∨ P1_1_ k_) ∨ w.heap.size ≤ k_) ∧ k_ ≠ gb317) v326 y325) ∧ Aside0 (Kd.V (Kd.int .i64) 3 wc w.heap.size (fun k_ => ((P0_ k_ ∨ P1_1_ k_) ∨ w.heap.size ≤ k_) ∧ some k_ ≠ (v326 : Value).ownBlock ∧ k_ ≠ gb317) (.slice A1_1 l1_1.length c1_1) l1_1) ∧ Aside0 (wc.heap[gb317]? = some (.cells #[.int .i64 a1_0, (.slice A1_1 l1_1.length c1_1)] 60 (0, 0))) ∧ Aside0 (Below w.heap.size w wc))
      case first =>
       have H := HC15.out
       clear HC15
       by_cases c18 : x6_2 < (l0.length : Int)
       ·rw [if_pos c18] at H
        have c18b0 : decide (x6_2 < (l0.length : Int)) = true := decide_eq_true c18
        clear c18
        (first | rw [c18b0] | (simp only [i64_w, i32_w]; rw [c18b0]) | skip)
        replace H := Option.bind_eq_some_iff.mp H
        obtain ⟨t329, A190, H⟩ := H
        replace H : (tenetref24_into.j2 kj2 l0 x6_2 y325 t329 a1_0 l1_1) = some (r1, r2) := H
        have A19 := Aside0.mk A190
        clear A190
        have H' := Aside0.mk H
        clear H
        try go_wp2
        have n0_ := Aside0.mk (Kd.V_drew HO_0.out)
        have n1_ := Aside0.mk (Kd.V_drew HO_318001.out)
        have n2_ := Aside0.mk (Kd.V_drew HO324.out)
        have n3_ := Aside0.mk (Kd.N_drew HO327.out)
        have n4_ := Aside0.mk (blk_drew BK317.out)
        have n5_ := Aside0.mk (below_drew1 HB.out)
        clear HO_0
        clear HO_318001
        clear HO324
        clear HO327
        clear BK317
        clear HB
        have HO_0 := n0_
        have HO_318001 := n1_
        have HO324 := n2_
        have HO327 := n3_
        have BK317 := n4_
        have HB := n5_
        clear n0_ n1_ n2_ n3_ n4_ n5_
        have p328 : 0 ≤ (x6_2 : Int) := of_decide_eq_true (by first | (with_reducible assumption) | assumption)
        have q328 : x6_2 < (l0.length : Int) := of_decide_eq_true (by first | (with_reducible assumption) | assumption)
        obtain ⟨ad328, A328_1, c328_1, e328, hx328_0, hx328_1, hl328_1, hi328_1⟩ := at_T60 (Kd.V_reads' HO_0.out).2.2 x6_2 p328 q328
        cases e328
        obtain ⟨ce328, hce328, hMe328, hcc328⟩ := Kd.V_get HO_0.out z60 x6_2 p328 (by first | exact q328 | exact of_decide_eq_true (by first | (with_reducible assumption) | assumption) | (have e_ := (Kd.V_reads' HO_0.out).1; omega))
        obtain ⟨ua328_1, uc328_1, rfl, ul328_1, ge328_1⟩ := k60_openF hMe328
        have hv328_1 := hcc328 1 _ rfl
        rw [add_field _ _ 1 (by omega)] at hv328_1
        replace hv328_1 := Option.some.inj (hv328_1.symm.trans hx328_1)
        injection hv328_1 with hva_ hvn_ hvc_
        rw [hva_] at ge328_1
        rw [hvc_] at ul328_1
        have HL328_1 := Aside0.mk (show Kd.V (Kd.int .i64) 3 _ w.heap.size _ _ ((rd_T60 l0 x6_2).f1) from Kd.V_mk ul328_1 ge328_1)
        clear hva_ hvn_ hvc_ ge328_1 ul328_1
        clear hcc328 hce328
        have HR328_1 := Aside0.mk hi328_1
        have HC328_1 := Aside0.mk hl328_1
        clear hi328_1 hl328_1
        replace p328 := eq_true p328
        replace q328 := eq_true q328
        refine start_ (n := 14) (S := fun w' => w'.cell? ⟨gb317, 0, none⟩ = some (.int .i64 a1_0) ∧ w'.cell? ⟨gb317, 1, none⟩ = some (.slice A1_1 l1_1.length c1_1) ∧ w'.cell? (ad328.add ((x6_2).toNat * 2)) = some (.int .i64 ((rd_T60 l0 x6_2).f0)) ∧ w'.cell? ⟨(ad328.add ((x6_2).toNat * 2)).block, (ad328.add ((x6_2).toNat * 2)).off + 1, none⟩ = some (.slice A328_1 ((rd_T60 l0 x6_2).f1).length c328_1)) (ds := []) #[false, false, false, false, false, false, false, false, false, false, false, false, false, false] (by kernel_rfl) rfl rfl ⟨(blk_cell BK317.out 0).trans rfl, (blk_cell BK317.out 1).trans rfl, hx328_0, hx328_1⟩ (fun hHeld => ?_); refine with_tabW tenetref24_into.tab6 tenetref24_into.bits6 (fun HT_ HW_ => ?_)
        generalize w17.drew = w20 at HO_0 HO_318001 HO324 HO327 BK317 HB HL328_1 HR328_1 hx328_0 hx328_1 hHeld ⊢
        refine pure_ (i := 0) (N := some 29) (v := ?_) (a' := ?_) #[true, false, false, false, false, false, false, false, false, false, false, false, false, false] rfl rfl (any_of HT_.out (by kernel_rfl)) (fun _ _ _ h => h) (Or.inl ⟨by rfl, ?_⟩) ?_ ?_
        rotate_left
        ·intro w'
         go_simp
         with_reducible rfl
        rotate_left
        ·simp only [Act.put, List.setIfInBounds_toArray, List.set_cons_zero, List.set_cons_succ, i64_w, i32_w]
         rfl
        refine pure_ (i := 1) (N := some 30) (v := ?_) (a' := ?_) #[true, true, false, false, false, false, false, false, false, false, false, false, false, false] rfl rfl (any_of HT_.out (by kernel_rfl)) (fun _ _ _ h => h) (Or.inl ⟨by rfl, ?_⟩) ?_ ?_
        rotate_left
        ·intro w'
         go_simp
         with_reducible rfl
        rotate_left
        ·simp only [Act.put, List.setIfInBounds_toArray, List.set_cons_zero, List.set_cons_succ, i64_w, i32_w]
         rfl
        refine pure_ (i := 2) (N := some 31) (v := ?_) (a' := ?_) #[true, true, true, false, false, false, false, false, false, false, false, false, false, false] rfl rfl (any_of HT_.out (by kernel_rfl)) (fun _ _ _ h => h) (Or.inl ⟨by rfl, ?_⟩) ?_ ?_
        rotate_left
        ·intro w'
         go_simp
         with_reducible rfl
        rotate_left
        ·simp only [Act.put, List.setIfInBounds_toArray, List.set_cons_zero, List.set_cons_succ, i64_w, i32_w]
         rfl
        refine pure_ (i := 3) (N := some 32) (v := ?_) (a' := ?_) #[true, true, true, true, false, false, false, false, false, false, false, false, false, false] rfl rfl (any_of HT_.out (by kernel_rfl)) (fun _ _ _ h => h) (Or.inl ⟨by rfl, ?_⟩) ?_ ?_
        rotate_left
        ·intro w'
         go_simp
         with_reducible rfl
        rotate_left
        ·simp only [Act.put, List.setIfInBounds_toArray, List.set_cons_zero, List.set_cons_succ, i64_w, i32_w]
         rfl
        refine pure_ (i := 4) (N := some 33) (v := ?_) (a' := ?_) #[true, true, true, true, true, false, false, false, false, false, false, false, false, false] rfl rfl (any_of HT_.out (by kernel_rfl)) (fun _ _ _ h => h) (Or.inl ⟨by rfl, ?_⟩) ?_ ?_
        rotate_left
        ·intro w'
         go_simp
         with_reducible rfl
        rotate_left
        ·simp only [Act.put, List.setIfInBounds_toArray, List.set_cons_zero, List.set_cons_succ, i64_w, i32_w]
         rfl
        refine pure_ (i := 5) (N := some 34) (v := ?_) (a' := ?_) #[true, true, true, true, true, true, false, false, false, false, false, false, false, false] rfl rfl (any_of HT_.out (by kernel_rfl)) (fun _ _ _ h => h) (Or.inl ⟨by rfl, ?_⟩) ?_ ?_
        rotate_left
        ·intro w'
         go_simp
         with_reducible rfl
        rotate_left
        ·simp only [Act.put, List.setIfInBounds_toArray, List.set_cons_zero, List.set_cons_succ, i64_w, i32_w]
         rfl
        refine pure_ (i := 6) (N := some 35) (v := ?_) (a' := ?_) #[true, true, true, true, true, true, true, false, false, false, false, false, false, false] rfl rfl (any_of HT_.out (by kernel_rfl)) (fun _ _ _ h => h) (Or.inl ⟨by rfl, ?_⟩) ?_ ?_
        rotate_left
        ·intro w'
         go_simp
         with_reducible rfl
        rotate_left
        ·simp only [Act.put, List.setIfInBounds_toArray, List.set_cons_zero, List.set_cons_succ, i64_w, i32_w]
         rfl
        refine pure_ (i := 7) (N := some 36) (v := ?_) (a' := ?_) #[true, true, true, true, true, true, true, true, false, false, false, false, false, false] rfl rfl (any_of HT_.out (by kernel_rfl)) (fun _ _ _ h => h) (Or.inl ⟨by rfl, ?_⟩) ?_ ?_
        rotate_left
        ·intro w'
         go_simp
         with_reducible rfl
        rotate_left
        ·simp only [Act.put, List.setIfInBounds_toArray, List.set_cons_zero, List.set_cons_succ, i64_w, i32_w]
         rfl
        refine pure_ (i := 8) (N := some 37) (v := ?_) (a' := ?_) #[true, true, true, true, true, true, true, true, true, false, false, false, false, false] rfl rfl (any_of HT_.out (by kernel_rfl)) (fun _ _ _ h => h) (Or.inl ⟨by rfl, ?_⟩) ?_ ?_
        rotate_left
        ·intro w'
         go_simp
         with_reducible rfl
        rotate_left
        ·simp only [Act.put, List.setIfInBounds_toArray, List.set_cons_zero, List.set_cons_succ, i64_w, i32_w]
         rfl
        refine pure_ (i := 10) (N := some 39) (v := ?_) (a' := ?_) #[true, true, true, true, true, true, true, true, true, false, true, false, false, false] rfl rfl (any_of HT_.out (by kernel_rfl)) (fun _ _ _ h => h) (Or.inl ⟨by rfl, ?_⟩) ?_ ?_
        rotate_left
        ·intro w'
         go_simp
         with_reducible rfl
        rotate_left
        ·simp only [Act.put, List.setIfInBounds_toArray, List.set_cons_zero, List.set_cons_succ, i64_w, i32_w]
         rfl
        refine take_ (i := 9) (N := some 38) (v := ?_) (a' := ?_) #[true, true, true, true, true, true, true, true, true, true, true, false, false, false] rfl rfl (take_ofW HT_.out HW_.out (by kernel_rfl)) (fun _ _ _ h => h) (Or.inl ⟨by rfl, ?_⟩) hHeld ?_ ?_
        rotate_left
        ·rintro w' ⟨s0, s1, s2, s3⟩
         go_simp
         with_reducible rfl
        rotate_left
        ·simp only [Act.put, List.setIfInBounds_toArray, List.set_cons_zero, List.set_cons_succ, i64_w, i32_w]
         rfl
        refine take_ (i := 11) (N := some 40) (v := ?_) (a' := ?_) #[true, true, true, true, true, true, true, true, true, true, true, true, false, false] rfl rfl (take_ofW HT_.out HW_.out (by kernel_rfl)) (fun _ _ _ h => h) (Or.inl ⟨by rfl, ?_⟩) hHeld ?_ ?_
        rotate_left
        ·rintro w' ⟨s0, s1, s2, s3⟩
         go_simp
         with_reducible rfl
        rotate_left
        ·simp only [Act.put, List.setIfInBounds_toArray, List.set_cons_zero, List.set_cons_succ, i64_w, i32_w]
         rfl
        refine one_ (i := 12) (N := some 41) #[true, true, true, true, true, true, true, true, true, true, true, true, true, false] rfl rfl (one_of HT_.out (by kernel_rfl)) (by decide) (fun K hK => ?_)
        refine goes_ Try.func113 (by kernel_rfl) rfl #[.slice A328_1 ((rd_T60 l0 x6_2).f1).length c328_1, .slice A1_1 l1_1.length c1_1] (by rfl) rfl rfl (by (try simp only [List.map_toArray, List.map_cons, List.map_nil]); first | done | rfl | (simp only [List.length_drop, List.length_take]; rfl)) ?_
        with_reducible refine (tenetref24_same.calls kj2 _ _ ((rd_T60 l0 x6_2).f1) _ _ l1_1 t329 _ ?side1 ?side2 ?side3 ?side4 A19.out).mono ?_
        (case side1 => repeat (first | exact (by repeat (first | (with_reducible exact HR328_1.out) | (with_reducible refine Kd.C_alloc ?_ _) | (with_reducible refine Kd.C_drewN ?_ _) | (with_reducible refine Kd.C_drew ?_) | exact HR328_1.out)) | (with_reducible refine Kd.C_alloc ?_ _) | (with_reducible refine Kd.C_drewN ?_ _) | (with_reducible refine Kd.C_drew ?_)))
        (case side2 => exact HC328_1.out)
        (case side3 => repeat (first | exact (Kd.V_reads' HO_318001.out).2.2 | (with_reducible refine Kd.C_alloc ?_ _) | (with_reducible refine Kd.C_drewN ?_ _) | (with_reducible refine Kd.C_drew ?_)))
        (case side4 => exact (Kd.V_reads' HO_318001.out).2.1)
        rintro e w' ⟨rfl, ⟨nd, rfl⟩⟩
        refine ⟨_, rfl, ?_⟩
        refine hK.out _ _ ⟨(blk_cell BK317.out 0).trans rfl, (blk_cell BK317.out 1).trans rfl, hHeld.2.2.1, hHeld.2.2.2⟩ (fun hHeld => ?_)
        clear hK K
        refine norm_ (a' := ?_) ?_ ?_
        rotate_left
        ·show Act.put _ (some 41) _ = _
         simp only [Act.put, List.setIfInBounds_toArray, List.set_cons_zero, List.set_cons_succ, i64_w, i32_w]
         rfl
        refine pure_ (i := 13) (N := some 42) (v := ?_) (a' := ?_) #[true, true, true, true, true, true, true, true, true, true, true, true, true, true] rfl rfl (any_of HT_.out (by kernel_rfl)) (fun _ _ _ h => h) (Or.inl ⟨by rfl, ?_⟩) ?_ ?_
        rotate_left
        ·intro w'
         go_simp
         with_reducible rfl
        rotate_left
        ·simp only [Act.put, List.setIfInBounds_toArray, List.set_cons_zero, List.set_cons_succ, i64_w, i32_w]
         rfl
        refine done_ (done_of HT_.out (by kernel_rfl)) ?_
        try go_wp2
        go_meet
        case rel => exact ⟨_, (t329), (by first | rfl | (simp; done) | (simp [*]; done)), H', ⟨by have := HJ2.out; first | omega | exact Nat.le_refl _⟩, ⟨by (with_reducible repeat (first | apply Kd.V_alloc | apply Kd.V_drewN | apply Kd.V_drew)); exact Kd.V_mono HO_0.out (fun _ hk => ⟨hk.1.1, ⟨hk.2, hk.1.2⟩⟩)⟩, ⟨by (with_reducible repeat (first | apply Kd.N_alloc | apply Kd.N_drewN | apply Kd.N_drew)); exact HO327.out⟩, ⟨by (with_reducible repeat (first | apply Kd.V_alloc | apply Kd.V_drewN | apply Kd.V_drew)); exact Kd.V_mono HO_318001.out (fun _ hk => ⟨hk.1.1, ⟨hk.2, hk.1.2⟩⟩)⟩, ⟨by (with_reducible repeat (first | refine blk_drewN ?_ _ | refine blk_drew ?_ | refine blk_alloc ?_ _)); exact BK317.out⟩, ⟨by repeat (first | (with_reducible first | exact HB.out | apply below_alloc | apply pw_below_drewN | apply below_drew1 | refine below_set ?_ GE317.out) | exact HB.out)⟩⟩
       ·rw [if_neg c18] at H
        have c18b0 : decide (x6_2 < (l0.length : Int)) = false := decide_eq_false c18
        clear c18
        (first | rw [c18b0] | (simp only [i64_w, i32_w]; rw [c18b0]) | skip)
        have H' := Aside0.mk H
        clear H
        try go_wp2
        have n0_ := Aside0.mk (Kd.V_drew HO_0.out)
        have n1_ := Aside0.mk (Kd.V_drew HO_318001.out)
        have n2_ := Aside0.mk (Kd.V_drew HO324.out)
        have n3_ := Aside0.mk (Kd.N_drew HO327.out)
        have n4_ := Aside0.mk (blk_drew BK317.out)
        have n5_ := Aside0.mk (below_drew1 HB.out)
        clear HO_0
        clear HO_318001
        clear HO324
        clear HO327
        clear BK317
        clear HB
        have HO_0 := n0_
        have HO_318001 := n1_
        have HO324 := n2_
        have HO327 := n3_
        have BK317 := n4_
        have HB := n5_
        clear n0_ n1_ n2_ n3_ n4_ n5_
        refine start_ (n := 14) (S := fun w' => True) (ds := []) #[false, false, false, false, false, false, false, false, false, false, false, false, false, false] (by kernel_rfl) rfl rfl trivial (fun hHeld => ?_); refine with_tabW tenetref24_into.tab6 tenetref24_into.bits6 (fun HT_ HW_ => ?_)
        generalize w17.drew = w21 at HO_0 HO_318001 HO324 HO327 BK317 HB hHeld ⊢
        refine pure_ (i := 0) (N := some 29) (v := ?_) (a' := ?_) #[true, false, false, false, false, false, false, false, false, false, false, false, false, false] rfl rfl (any_of HT_.out (by kernel_rfl)) (fun _ _ _ h => h) (Or.inl ⟨by rfl, ?_⟩) ?_ ?_
        rotate_left
        ·intro w'
         go_simp
         with_reducible rfl
        rotate_left
        ·simp only [Act.put, List.setIfInBounds_toArray, List.set_cons_zero, List.set_cons_succ, i64_w, i32_w]
         rfl
        refine pure_ (i := 1) (N := some 30) (v := ?_) (a' := ?_) #[true, true, false, false, false, false, false, false, false, false, false, false, false, false] rfl rfl (any_of HT_.out (by kernel_rfl)) (fun _ _ _ h => h) (Or.inl ⟨by rfl, ?_⟩) ?_ ?_
        rotate_left
        ·intro w'
         go_simp
         with_reducible rfl
        rotate_left
        ·simp only [Act.put, List.setIfInBounds_toArray, List.set_cons_zero, List.set_cons_succ, i64_w, i32_w]
         rfl
        refine pure_ (i := 2) (N := some 31) (v := ?_) (a' := ?_) #[true, true, true, false, false, false, false, false, false, false, false, false, false, false] rfl rfl (any_of HT_.out (by kernel_rfl)) (fun _ _ _ h => h) (Or.inl ⟨by rfl, ?_⟩) ?_ ?_
        rotate_left
        ·intro w'
         go_simp
         with_reducible rfl
        rotate_left
        ·simp only [Act.put, List.setIfInBounds_toArray, List.set_cons_zero, List.set_cons_succ, i64_w, i32_w]
         rfl
        refine pure_ (i := 3) (N := some 32) (v := ?_) (a' := ?_) #[true, true, true, true, false, false, false, false, false, false, false, false, false, false] rfl rfl (any_of HT_.out (by kernel_rfl)) (fun _ _ _ h => h) (Or.inl ⟨by rfl, ?_⟩) ?_ ?_
        rotate_left
        ·intro w'
         go_simp
         with_reducible rfl
        rotate_left
        ·simp only [Act.put, List.setIfInBounds_toArray, List.set_cons_zero, List.set_cons_succ, i64_w, i32_w]
         rfl
        refine pure_ (i := 4) (N := some 33) (v := ?_) (a' := ?_) #[true, true, true, true, true, false, false, false, false, false, false, false, false, false] rfl rfl (any_of HT_.out (by kernel_rfl)) (fun _ _ _ h => h) (Or.inl ⟨by rfl, ?_⟩) ?_ ?_
        rotate_left
        ·intro w'
         go_simp
         with_reducible rfl
        rotate_left
        ·simp only [Act.put, List.setIfInBounds_toArray, List.set_cons_zero, List.set_cons_succ, i64_w, i32_w]
         rfl
        refine pure_ (i := 5) (N := some 34) (v := undef) (a' := ?_) #[true, true, true, true, true, true, false, false, false, false, false, false, false, false] rfl rfl (any_of HT_.out (by kernel_rfl)) (fun _ _ _ h => h) (Or.inr ⟨by rfl, rfl⟩) ?_ ?_
        rotate_left
        ·simp only [Act.put, List.setIfInBounds_toArray, List.set_cons_zero, List.set_cons_succ, i64_w, i32_w]
         rfl
        refine pure_ (i := 6) (N := some 35) (v := undef) (a' := ?_) #[true, true, true, true, true, true, true, false, false, false, false, false, false, false] rfl rfl (any_of HT_.out (by kernel_rfl)) (fun _ _ _ h => h) (Or.inr ⟨by rfl, rfl⟩) ?_ ?_
        rotate_left
        ·simp only [Act.put, List.setIfInBounds_toArray, List.set_cons_zero, List.set_cons_succ, i64_w, i32_w]
         rfl
        refine pure_ (i := 7) (N := some 36) (v := undef) (a' := ?_) #[true, true, true, true, true, true, true, true, false, false, false, false, false, false] rfl rfl (any_of HT_.out (by kernel_rfl)) (fun _ _ _ h => h) (Or.inr ⟨by rfl, rfl⟩) ?_ ?_
        rotate_left
        ·simp only [Act.put, List.setIfInBounds_toArray, List.set_cons_zero, List.set_cons_succ, i64_w, i32_w]
         rfl
        refine pure_ (i := 8) (N := some 37) (v := undef) (a' := ?_) #[true, true, true, true, true, true, true, true, true, false, false, false, false, false] rfl rfl (any_of HT_.out (by kernel_rfl)) (fun _ _ _ h => h) (Or.inr ⟨by rfl, rfl⟩) ?_ ?_
        rotate_left
        ·simp only [Act.put, List.setIfInBounds_toArray, List.set_cons_zero, List.set_cons_succ, i64_w, i32_w]
         rfl
        refine pure_ (i := 9) (N := some 38) (v := undef) (a' := ?_) #[true, true, true, true, true, true, true, true, true, true, false, false, false, false] rfl rfl (any_of HT_.out (by kernel_rfl)) (fun _ _ _ h => h) (Or.inr ⟨by rfl, rfl⟩) ?_ ?_
        rotate_left
        ·simp only [Act.put, List.setIfInBounds_toArray, List.set_cons_zero, List.set_cons_succ, i64_w, i32_w]
         rfl
        refine pure_ (i := 10) (N := some 39) (v := undef) (a' := ?_) #[true, true, true, true, true, true, true, true, true, true, true, false, false, false] rfl rfl (any_of HT_.out (by kernel_rfl)) (fun _ _ _ h => h) (Or.inr ⟨by rfl, rfl⟩) ?_ ?_
        rotate_left
        ·simp only [Act.put, List.setIfInBounds_toArray, List.set_cons_zero, List.set_cons_succ, i64_w, i32_w]
         rfl
        refine pure_ (i := 11) (N := some 40) (v := undef) (a' := ?_) #[true, true, true, true, true, true, true, true, true, true, true, true, false, false] rfl rfl (any_of HT_.out (by kernel_rfl)) (fun _ _ _ h => h) (Or.inr ⟨by rfl, rfl⟩) ?_ ?_
        rotate_left
        ·simp only [Act.put, List.setIfInBounds_toArray, List.set_cons_zero, List.set_cons_succ, i64_w, i32_w]
         rfl
        refine pure_ (i := 12) (N := some 41) (v := undef) (a' := ?_) #[true, true, true, true, true, true, true, true, true, true, true, true, true, false] rfl rfl (any_of HT_.out (by kernel_rfl)) (fun _ _ _ h => h) (Or.inr ⟨by rfl, rfl⟩) ?_ ?_
        rotate_left
        ·simp only [Act.put, List.setIfInBounds_toArray, List.set_cons_zero, List.set_cons_succ, i64_w, i32_w]
         rfl
        refine pure_ (i := 13) (N := some 42) (v := ?_) (a' := ?_) #[true, true, true, true, true, true, true, true, true, true, true, true, true, true] rfl rfl (any_of HT_.out (by kernel_rfl)) (fun _ _ _ h => h) (Or.inl ⟨by rfl, ?_⟩) ?_ ?_
        rotate_left
        ·intro w'
         go_simp
         with_reducible rfl
        rotate_left
        ·simp only [Act.put, List.setIfInBounds_toArray, List.set_cons_zero, List.set_cons_succ, i64_w, i32_w]
         rfl
        refine done_ (done_of HT_.out (by kernel_rfl)) ?_
        try go_wp2
        go_meet
        case rel => exact ⟨_, (false), (by first | rfl | (simp; done) | (simp [*]; done)), H', ⟨by have := HJ2.out; first | omega | exact Nat.le_refl _⟩, ⟨by (with_reducible repeat (first | apply Kd.V_alloc | apply Kd.V_drewN | apply Kd.V_drew)); exact Kd.V_mono HO_0.out (fun _ hk => ⟨hk.1.1, ⟨hk.2, hk.1.2⟩⟩)⟩, ⟨by (with_reducible repeat (first | apply Kd.N_alloc | apply Kd.N_drewN | apply Kd.N_drew)); exact HO327.out⟩, ⟨by (with_reducible repeat (first | apply Kd.V_alloc | apply Kd.V_drewN | apply Kd.V_drew)); exact Kd.V_mono HO_318001.out (fun _ hk => ⟨hk.1.1, ⟨hk.2, hk.1.2⟩⟩)⟩, ⟨by (with_reducible repeat (first | refine blk_drewN ?_ _ | refine blk_drew ?_ | refine blk_alloc ?_ _)); exact BK317.out⟩, ⟨by repeat (first | (with_reducible first | exact HB.out | apply below_alloc | apply pw_below_drewN | apply below_drew1 | refine below_set ?_ GE317.out) | exact HB.out)⟩⟩
      case rest =>
       clear HC15
       try clear c1
       try clear q1
       try clear p2
       try clear c3
       try clear p3
       try clear q3
       try clear hx3
       try clear c5
       try clear c5b0
       try clear c6
       try clear c6b0
       try clear p6
       try clear c8
       try clear c9
       try clear c11
       try clear c12
       try clear c12b0
       try clear c12b1
       try clear c13
       try clear c13b0
       try clear c13b1
       try clear c14
       try clear q16
       try clear c18
       try clear c18b0
       try clear hx318_0
       try clear hx318_1
       try clear hx328_0
       try clear hx328_1
       try clear p2
       try clear p3
       try clear p318
       try clear p328
       try clear p6
       try clear q16
       try clear q3
       try clear q318
       try clear q328
       obtain ⟨kq, x42_14, rfl, HA, HJ14, HO_0, HO_7, HO_318001, BK317, HB⟩ := hcut
       cases kq with
       | zero => exact absurd HA.out (by simp [tenetref24_into.j2])
       | succ kj14 =>
        have H := HA.out
        clear HA
        simp only [tenetref24_into.j2] at H
        by_cases c22 : x42_14 = true
        ·subst c22
         have H1 : (if 0 ≤ x6_2 then (if x6_2 < (l0.length : Int) then (if ((rd_T60 l0 x6_2).f0) > (wrap64 (1000000000000000 - a1_0)) then (some (([] : List (S60)), false)) else (if y325.length < 4398046511104 then ((some (y325 ++ [(⟨wrap64 (((rd_T60 l0 x6_2).f0) + a1_0), (rd_T60 l0 x6_2).f1⟩ : S60)] : List (S60))).bind fun y333 => (if 0 ≤ (wrap64 (x6_2 + 1)) then (if (wrap64 (x6_2 + 1)) ≤ (l0.length : Int) then ((some (l0.drop ((wrap64 (x6_2 + 1)) : Int).toNat : List (S60))).bind fun y336 => (if y333.length + y336.length < 4398046511104 then (some ((y333 ++ y336), true)) else (none))) else (none)) else (none))) else (none))) else (none)) else (none)) = some (r1, r2) := by rw [if_pos rfl] at H; exact H
         clear H
         have H := H1
         clear H1
         by_cases c23 : 0 ≤ x6_2
         ·rw [if_pos c23] at H
          have c23b0 : decide (0 ≤ x6_2) = true := decide_eq_true c23
          clear c23
          by_cases c24 : x6_2 < (l0.length : Int)
          ·rw [if_pos c24] at H
           have c24b0 : decide (x6_2 < (l0.length : Int)) = true := decide_eq_true c24
           clear c24
           by_cases c25 : ((rd_T60 l0 x6_2).f0) > (wrap64 (1000000000000000 - a1_0))
           ·rw [if_pos c25] at H
            have c25b0 : decide ((wrap64 (1000000000000000 - a1_0)) < ((rd_T60 l0 x6_2).f0)) = true := decide_eq_true c25
            clear c25
            simp only [Option.some.injEq, Prod.mk.injEq] at H
            obtain ⟨rfl, rfl⟩ := H
            try go_wp2
            have n0_ := Aside0.mk (Kd.V_drew HO_0.out)
            have n1_ := Aside0.mk (Kd.N_drew HO_7.out)
            have n2_ := Aside0.mk (Kd.V_drew HO_318001.out)
            have n3_ := Aside0.mk (blk_drew BK317.out)
            have n4_ := Aside0.mk (below_drew1 HB.out)
            clear HO_0
            clear HO_7
            clear HO_318001
            clear BK317
            clear HB
            have HO_0 := n0_
            have HO_7 := n1_
            have HO_318001 := n2_
            have BK317 := n3_
            have HB := n4_
            clear n0_ n1_ n2_ n3_ n4_
            have p330 : 0 ≤ (x6_2 : Int) := of_decide_eq_true (by first | (with_reducible assumption) | assumption)
            have q330 : x6_2 < (l0.length : Int) := of_decide_eq_true (by first | (with_reducible assumption) | assumption)
            obtain ⟨ad330, A330_1, c330_1, e330, hx330_0, hx330_1, hl330_1, hi330_1⟩ := at_T60 (Kd.V_reads' HO_0.out).2.2 x6_2 p330 q330
            cases e330
            obtain ⟨ce330, hce330, hMe330, hcc330⟩ := Kd.V_get HO_0.out z60 x6_2 p330 (by first | exact q330 | exact of_decide_eq_true (by first | (with_reducible assumption) | assumption) | (have e_ := (Kd.V_reads' HO_0.out).1; omega))
            obtain ⟨ua330_1, uc330_1, rfl, ul330_1, ge330_1⟩ := k60_openF hMe330
            have hv330_1 := hcc330 1 _ rfl
            rw [add_field _ _ 1 (by omega)] at hv330_1
            replace hv330_1 := Option.some.inj (hv330_1.symm.trans hx330_1)
            injection hv330_1 with hva_ hvn_ hvc_
            rw [hva_] at ge330_1
            rw [hvc_] at ul330_1
            have HL330_1 := Aside0.mk (show Kd.V (Kd.int .i64) 3 _ w.heap.size _ _ ((rd_T60 l0 x6_2).f1) from Kd.V_mk ul330_1 ge330_1)
            clear hva_ hvn_ hvc_ ge330_1 ul330_1
            clear hcc330 hce330
            have HR330_1 := Aside0.mk hi330_1
            have HC330_1 := Aside0.mk hl330_1
            clear hi330_1 hl330_1
            replace p330 := eq_true p330
            replace q330 := eq_true q330
            refine start_ (n := 9) (S := fun w' => w'.cell? ⟨gb317, 0, none⟩ = some (.int .i64 a1_0) ∧ w'.cell? ⟨gb317, 1, none⟩ = some (.slice A1_1 l1_1.length c1_1) ∧ w'.cell? (ad330.add ((x6_2).toNat * 2)) = some (.int .i64 ((rd_T60 l0 x6_2).f0)) ∧ w'.cell? ⟨(ad330.add ((x6_2).toNat * 2)).block, (ad330.add ((x6_2).toNat * 2)).off + 1, none⟩ = some (.slice A330_1 ((rd_T60 l0 x6_2).f1).length c330_1)) (ds := []) #[false, false, false, false, false, false, false, false, false] (by kernel_rfl) rfl rfl ⟨(blk_cell BK317.out 0).trans rfl, (blk_cell BK317.out 1).trans rfl, hx330_0, hx330_1⟩ (fun hHeld => ?_); refine with_tabW tenetref24_into.tab7 tenetref24_into.bits7 (fun HT_ HW_ => ?_)
            generalize wc.drew = w26 at HO_0 HO_7 HO_318001 BK317 HB HL330_1 HR330_1 hx330_0 hx330_1 hHeld ⊢
            refine pure_ (i := 0) (N := some 43) (v := ?_) (a' := ?_) #[true, false, false, false, false, false, false, false, false] rfl rfl (any_of HT_.out (by kernel_rfl)) (fun _ _ _ h => h) (Or.inl ⟨by rfl, ?_⟩) ?_ ?_
            rotate_left
            ·intro w'
             go_simp
             with_reducible rfl
            rotate_left
            ·simp only [Act.put, List.setIfInBounds_toArray, List.set_cons_zero, List.set_cons_succ, i64_w, i32_w]
             rfl
            refine pure_ (i := 1) (N := some 44) (v := ?_) (a' := ?_) #[true, true, false, false, false, false, false, false, false] rfl rfl (any_of HT_.out (by kernel_rfl)) (fun _ _ _ h => h) (Or.inl ⟨by rfl, ?_⟩) ?_ ?_
            rotate_left
            ·intro w'
             go_simp
             with_reducible rfl
            rotate_left
            ·simp only [Act.put, List.setIfInBounds_toArray, List.set_cons_zero, List.set_cons_succ, i64_w, i32_w]
             rfl
            refine pure_ (i := 2) (N := some 45) (v := ?_) (a' := ?_) #[true, true, true, false, false, false, false, false, false] rfl rfl (any_of HT_.out (by kernel_rfl)) (fun _ _ _ h => h) (Or.inl ⟨by rfl, ?_⟩) ?_ ?_
            rotate_left
            ·intro w'
             go_simp
             with_reducible rfl
            rotate_left
            ·simp only [Act.put, List.setIfInBounds_toArray, List.set_cons_zero, List.set_cons_succ, i64_w, i32_w]
             rfl
            refine pure_ (i := 3) (N := some 46) (v := ?_) (a' := ?_) #[true, true, true, true, false, false, false, false, false] rfl rfl (any_of HT_.out (by kernel_rfl)) (fun _ _ _ h => h) (Or.inl ⟨by rfl, ?_⟩) ?_ ?_
            rotate_left
            ·intro w'
             go_simp
             with_reducible rfl
            rotate_left
            ·simp only [Act.put, List.setIfInBounds_toArray, List.set_cons_zero, List.set_cons_succ, i64_w, i32_w]
             rfl
            refine pure_ (i := 5) (N := some 48) (v := ?_) (a' := ?_) #[true, true, true, true, false, true, false, false, false] rfl rfl (any_of HT_.out (by kernel_rfl)) (fun _ _ _ h => h) (Or.inl ⟨by rfl, ?_⟩) ?_ ?_
            rotate_left
            ·intro w'
             go_simp
             with_reducible rfl
            rotate_left
            ·simp only [Act.put, List.setIfInBounds_toArray, List.set_cons_zero, List.set_cons_succ, i64_w, i32_w]
             rfl
            refine take_ (i := 4) (N := some 47) (v := ?_) (a' := ?_) #[true, true, true, true, true, true, false, false, false] rfl rfl (take_ofW HT_.out HW_.out (by kernel_rfl)) (fun _ _ _ h => h) (Or.inl ⟨by rfl, ?_⟩) hHeld ?_ ?_
            rotate_left
            ·rintro w' ⟨s0, s1, s2, s3⟩
             go_simp
             with_reducible rfl
            rotate_left
            ·simp only [Act.put, List.setIfInBounds_toArray, List.set_cons_zero, List.set_cons_succ, i64_w, i32_w]
             rfl
            refine take_ (i := 6) (N := some 49) (v := ?_) (a' := ?_) #[true, true, true, true, true, true, true, false, false] rfl rfl (take_ofW HT_.out HW_.out (by kernel_rfl)) (fun _ _ _ h => h) (Or.inl ⟨by rfl, ?_⟩) hHeld ?_ ?_
            rotate_left
            ·rintro w' ⟨s0, s1, s2, s3⟩
             go_simp
             with_reducible rfl
            rotate_left
            ·simp only [Act.put, List.setIfInBounds_toArray, List.set_cons_zero, List.set_cons_succ, i64_w, i32_w]
             rfl
            refine pure_ (i := 7) (N := some 50) (v := ?_) (a' := ?_) #[true, true, true, true, true, true, true, true, false] rfl rfl (any_of HT_.out (by kernel_rfl)) (fun _ _ _ h => h) (Or.inl ⟨by rfl, ?_⟩) ?_ ?_
            rotate_left
            ·intro w'
             go_simp
             with_reducible rfl
            rotate_left
            ·simp only [Act.put, List.setIfInBounds_toArray, List.set_cons_zero, List.set_cons_succ, i64_w, i32_w]
             rfl
            refine pure_ (i := 8) (N := some 51) (v := ?_) (a' := ?_) #[true, true, true, true, true, true, true, true, true] rfl rfl (any_of HT_.out (by kernel_rfl)) (fun _ _ _ h => h) (Or.inl ⟨by rfl, ?_⟩) ?_ ?_
            rotate_left
            ·intro w'
             go_simp
             with_reducible rfl
            rotate_left
            ·simp only [Act.put, List.setIfInBounds_toArray, List.set_cons_zero, List.set_cons_succ, i64_w, i32_w]
             rfl
            refine done_ (done_of HT_.out (by kernel_rfl)) ?_
            try go_wp2
            go_ret2
            exact ⟨_, by first | rfl | (simp [errW_none, errW_some] <;> rfl) | (simp [*, errW_none, errW_some] <;> rfl), by first | exact Kd.S_nil _ _ _ _ _ | exact Kd.N_nil _ _ _ _ _ | exact Kd.V_nil _ _ _ _ _ | exact Kd.Q_nil _ _ _ _ _ | exact Kd.R_nil _ _ _ _ _, by repeat (first | (with_reducible first | exact HB.out | apply below_alloc | apply pw_below_drewN | apply below_drew1 | refine below_set ?_ GE317.out) | exact HB.out)⟩
           ·rw [if_neg c25] at H
            have c25b0 : decide ((wrap64 (1000000000000000 - a1_0)) < ((rd_T60 l0 x6_2).f0)) = false := decide_eq_false c25
            clear c25
            by_cases c27 : y325.length < 4398046511104
            ·rw [if_pos c27] at H
             have LMc27 := Aside0.mk c27
             clear c27
             obtain ⟨y333, hy333⟩ : ∃ y_ : List (S60), y_ = (y325 ++ [(⟨wrap64 (((rd_T60 l0 x6_2).f0) + a1_0), (rd_T60 l0 x6_2).f1⟩ : S60)]) := ⟨_, rfl⟩
             replace H : (if 0 ≤ (wrap64 (x6_2 + 1)) then (if (wrap64 (x6_2 + 1)) ≤ (l0.length : Int) then ((some (l0.drop ((wrap64 (x6_2 + 1)) : Int).toNat : List (S60))).bind fun y336 => (if y333.length + y336.length < 4398046511104 then (some ((y333 ++ y336), true)) else (none))) else (none)) else (none)) = some (r1, r2) := by first | (rw [hy333]; with_reducible exact H) | (have H2_ := (Option.bind_some _ _).symm.trans H; rw [hy333]; with_reducible exact H2_) | (have H2_ := (Option.bind_some _ _).symm.trans H; with_reducible exact H2_) | with_reducible exact H | (rw [hy333]; exact H) | exact H
             have Ny333 := Aside0.mk hy333
             clear hy333
             obtain ⟨ji28, hji28⟩ : ∃ j_ : Int, (wrap64 (x6_2 + 1)) = j_ := ⟨_, rfl⟩
             replace H : (if 0 ≤ (ji28) then (if (ji28) ≤ (l0.length : Int) then ((some (l0.drop ((ji28) : Int).toNat : List (S60))).bind fun y336 => (if y333.length + y336.length < 4398046511104 then (some ((y333 ++ y336), true)) else (none))) else (none)) else (none)) = some (r1, r2) := by first | (rw [hji28] at H; exact H) | (simp only [hji28] at H ⊢; exact H)
             have hji28w : (IntKind.i64.wrap (x6_2 + 1)) = ji28 := (i64_w _).trans hji28
             by_cases c29 : 0 ≤ (ji28)
             ·rw [if_pos c29] at H
              have c29b0 := eq_true c29
              have c29b1 : decide (0 ≤ (ji28)) = true := decide_eq_true c29
              clear c29
              by_cases c30 : (ji28) ≤ (l0.length : Int)
              ·rw [if_pos c30] at H
               have c30b0 := eq_true c30
               have c30b1 : decide ((ji28) ≤ (l0.length : Int)) = true := decide_eq_true c30
               clear c30
               obtain ⟨y336, hy336⟩ : ∃ y_ : List (S60), y_ = (l0.drop ((ji28) : Int).toNat) := ⟨_, rfl⟩
               replace H : (if y333.length + y336.length < 4398046511104 then (some ((y333 ++ y336), true)) else (none)) = some (r1, r2) := by first | (rw [hy336]; with_reducible exact H) | (have H2_ := (Option.bind_some _ _).symm.trans H; rw [hy336]; with_reducible exact H2_) | (have H2_ := (Option.bind_some _ _).symm.trans H; with_reducible exact H2_) | with_reducible exact H | (rw [hy336]; exact H) | exact H
               have Ny336 := Aside0.mk hy336
               clear hy336
               by_cases c31 : y333.length + y336.length < 4398046511104
               ·rw [if_pos c31] at H
                have LMc31 := Aside0.mk c31
                clear c31
                obtain ⟨y341, hy341⟩ : ∃ y_ : List (S60), y_ = (y333 ++ y336) := ⟨_, rfl⟩
                replace H : (some (y341, true)) = some (r1, r2) := by first | (rw [hy341]; with_reducible exact H) | (have H2_ := (Option.bind_some _ _).symm.trans H; rw [hy341]; with_reducible exact H2_) | (have H2_ := (Option.bind_some _ _).symm.trans H; with_reducible exact H2_) | with_reducible exact H | (rw [hy341]; exact H) | exact H
                have Ny341 := Aside0.mk hy341
                clear hy341
                simp only [Option.some.injEq, Prod.mk.injEq] at H
                obtain ⟨rfl, rfl⟩ := H
                try go_wp2
                have n0_ := Aside0.mk (Kd.V_drew HO_0.out)
                have n1_ := Aside0.mk (Kd.N_drew HO_7.out)
                have n2_ := Aside0.mk (Kd.V_drew HO_318001.out)
                have n3_ := Aside0.mk (blk_drew BK317.out)
                have n4_ := Aside0.mk (below_drew1 HB.out)
                clear HO_0
                clear HO_7
                clear HO_318001
                clear BK317
                clear HB
                have HO_0 := n0_
                have HO_7 := n1_
                have HO_318001 := n2_
                have BK317 := n3_
                have HB := n4_
                clear n0_ n1_ n2_ n3_ n4_
                have p330 : 0 ≤ (x6_2 : Int) := of_decide_eq_true (by first | (with_reducible assumption) | assumption)
                have q330 : x6_2 < (l0.length : Int) := of_decide_eq_true (by first | (with_reducible assumption) | assumption)
                obtain ⟨ad330, A330_1, c330_1, e330, hx330_0, hx330_1, hl330_1, hi330_1⟩ := at_T60 (Kd.V_reads' HO_0.out).2.2 x6_2 p330 q330
                cases e330
                obtain ⟨ce330, hce330, hMe330, hcc330⟩ := Kd.V_get HO_0.out z60 x6_2 p330 (by first | exact q330 | exact of_decide_eq_true (by first | (with_reducible assumption) | assumption) | (have e_ := (Kd.V_reads' HO_0.out).1; omega))
                obtain ⟨ua330_1, uc330_1, rfl, ul330_1, ge330_1⟩ := k60_openF hMe330
                have hv330_1 := hcc330 1 _ rfl
                rw [add_field _ _ 1 (by omega)] at hv330_1
                replace hv330_1 := Option.some.inj (hv330_1.symm.trans hx330_1)
                injection hv330_1 with hva_ hvn_ hvc_
                rw [hva_] at ge330_1
                rw [hvc_] at ul330_1
                have HL330_1 := Aside0.mk (show Kd.V (Kd.int .i64) 3 _ w.heap.size _ _ ((rd_T60 l0 x6_2).f1) from Kd.V_mk ul330_1 ge330_1)
                clear hva_ hvn_ hvc_ ge330_1 ul330_1
                clear hcc330 hce330
                have HR330_1 := Aside0.mk hi330_1
                have HC330_1 := Aside0.mk hl330_1
                clear hi330_1 hl330_1
                replace p330 := eq_true p330
                replace q330 := eq_true q330
                refine start_ (n := 9) (S := fun w' => w'.cell? ⟨gb317, 0, none⟩ = some (.int .i64 a1_0) ∧ w'.cell? ⟨gb317, 1, none⟩ = some (.slice A1_1 l1_1.length c1_1) ∧ w'.cell? (ad330.add ((x6_2).toNat * 2)) = some (.int .i64 ((rd_T60 l0 x6_2).f0)) ∧ w'.cell? ⟨(ad330.add ((x6_2).toNat * 2)).block, (ad330.add ((x6_2).toNat * 2)).off + 1, none⟩ = some (.slice A330_1 ((rd_T60 l0 x6_2).f1).length c330_1)) (ds := []) #[false, false, false, false, false, false, false, false, false] (by kernel_rfl) rfl rfl ⟨(blk_cell BK317.out 0).trans rfl, (blk_cell BK317.out 1).trans rfl, hx330_0, hx330_1⟩ (fun hHeld => ?_); refine with_tabW tenetref24_into.tab7 tenetref24_into.bits7 (fun HT_ HW_ => ?_)
                generalize wc.drew = w32 at HO_0 HO_7 HO_318001 BK317 HB HL330_1 HR330_1 hx330_0 hx330_1 hHeld ⊢
                refine pure_ (i := 0) (N := some 43) (v := ?_) (a' := ?_) #[true, false, false, false, false, false, false, false, false] rfl rfl (any_of HT_.out (by kernel_rfl)) (fun _ _ _ h => h) (Or.inl ⟨by rfl, ?_⟩) ?_ ?_
                rotate_left
                ·intro w'
                 go_simp
                 with_reducible rfl
                rotate_left
                ·simp only [Act.put, List.setIfInBounds_toArray, List.set_cons_zero, List.set_cons_succ, i64_w, i32_w]
                 rfl
                refine pure_ (i := 1) (N := some 44) (v := ?_) (a' := ?_) #[true, true, false, false, false, false, false, false, false] rfl rfl (any_of HT_.out (by kernel_rfl)) (fun _ _ _ h => h) (Or.inl ⟨by rfl, ?_⟩) ?_ ?_
                rotate_left
                ·intro w'
                 go_simp
                 with_reducible rfl
                rotate_left
                ·simp only [Act.put, List.setIfInBounds_toArray, List.set_cons_zero, List.set_cons_succ, i64_w, i32_w]
                 rfl
                refine pure_ (i := 2) (N := some 45) (v := ?_) (a' := ?_) #[true, true, true, false, false, false, false, false, false] rfl rfl (any_of HT_.out (by kernel_rfl)) (fun _ _ _ h => h) (Or.inl ⟨by rfl, ?_⟩) ?_ ?_
                rotate_left
                ·intro w'
                 go_simp
                 with_reducible rfl
                rotate_left
                ·simp only [Act.put, List.setIfInBounds_toArray, List.set_cons_zero, List.set_cons_succ, i64_w, i32_w]
                 rfl
                refine pure_ (i := 3) (N := some 46) (v := ?_) (a' := ?_) #[true, true, true, true, false, false, false, false, false] rfl rfl (any_of HT_.out (by kernel_rfl)) (fun _ _ _ h => h) (Or.inl ⟨by rfl, ?_⟩) ?_ ?_
                rotate_left
                ·intro w'
                 go_simp
                 with_reducible rfl
                rotate_left
                ·simp only [Act.put, List.setIfInBounds_toArray, List.set_cons_zero, List.set_cons_succ, i64_w, i32_w]
                 rfl
                refine pure_ (i := 5) (N := some 48) (v := ?_) (a' := ?_) #[true, true, true, true, false, true, false, false, false] rfl rfl (any_of HT_.out (by kernel_rfl)) (fun _ _ _ h => h) (Or.inl ⟨by rfl, ?_⟩) ?_ ?_
                rotate_left
                ·intro w'
                 go_simp
                 with_reducible rfl
                rotate_left
                ·simp only [Act.put, List.setIfInBounds_toArray, List.set_cons_zero, List.set_cons_succ, i64_w, i32_w]
                 rfl
                refine take_ (i := 4) (N := some 47) (v := ?_) (a' := ?_) #[true, true, true, true, true, true, false, false, false] rfl rfl (take_ofW HT_.out HW_.out (by kernel_rfl)) (fun _ _ _ h => h) (Or.inl ⟨by rfl, ?_⟩) hHeld ?_ ?_
                rotate_left
                ·rintro w' ⟨s0, s1, s2, s3⟩
                 go_simp
                 with_reducible rfl
                rotate_left
                ·simp only [Act.put, List.setIfInBounds_toArray, List.set_cons_zero, List.set_cons_succ, i64_w, i32_w]
                 rfl
                refine take_ (i := 6) (N := some 49) (v := ?_) (a' := ?_) #[true, true, true, true, true, true, true, false, false] rfl rfl (take_ofW HT_.out HW_.out (by kernel_rfl)) (fun _ _ _ h => h) (Or.inl ⟨by rfl, ?_⟩) hHeld ?_ ?_
                rotate_left
                ·rintro w' ⟨s0, s1, s2, s3⟩
                 go_simp
                 with_reducible rfl
                rotate_left
                ·simp only [Act.put, List.setIfInBounds_toArray, List.set_cons_zero, List.set_cons_succ, i64_w, i32_w]
                 rfl
                refine pure_ (i := 7) (N := some 50) (v := ?_) (a' := ?_) #[true, true, true, true, true, true, true, true, false] rfl rfl (any_of HT_.out (by kernel_rfl)) (fun _ _ _ h => h) (Or.inl ⟨by rfl, ?_⟩) ?_ ?_
                rotate_left
                ·intro w'
                 go_simp
                 with_reducible rfl
                rotate_left
                ·simp only [Act.put, List.setIfInBounds_toArray, List.set_cons_zero, List.set_cons_succ, i64_w, i32_w]
                 rfl
                refine pure_ (i := 8) (N := some 51) (v := ?_) (a' := ?_) #[true, true, true, true, true, true, true, true, true] rfl rfl (any_of HT_.out (by kernel_rfl)) (fun _ _ _ h => h) (Or.inl ⟨by rfl, ?_⟩) ?_ ?_
                rotate_left
                ·intro w'
                 go_simp
                 with_reducible rfl
                rotate_left
                ·simp only [Act.put, List.setIfInBounds_toArray, List.set_cons_zero, List.set_cons_succ, i64_w, i32_w]
                 rfl
                refine done_ (done_of HT_.out (by kernel_rfl)) ?_
                try go_wp2
                have n0_ := Aside0.mk (Kd.V_drew HO_0.out)
                have n1_ := Aside0.mk (Kd.N_drew HO_7.out)
                have n2_ := Aside0.mk (Kd.V_drew HO_318001.out)
                have n3_ := Aside0.mk (Kd.V_drew HL330_1.out)
                have n4_ := Aside0.mk (blk_drew BK317.out)
                have n5_ := Aside0.mk (Kd.C_drew HR330_1.out)
                have n6_ := Aside0.mk (below_drew1 HB.out)
                clear HO_0
                clear HO_7
                clear HO_318001
                clear HL330_1
                clear BK317
                clear HR330_1
                clear HB
                have HO_0 := n0_
                have HO_7 := n1_
                have HO_318001 := n2_
                have HL330_1 := n3_
                have BK317 := n4_
                have HR330_1 := n5_
                have HB := n6_
                clear n0_ n1_ n2_ n3_ n4_ n5_ n6_
                have p331 : 0 ≤ (x6_2 : Int) := of_decide_eq_true (by first | (with_reducible assumption) | assumption)
                have q331 : x6_2 < (l0.length : Int) := of_decide_eq_true (by first | (with_reducible assumption) | assumption)
                obtain ⟨ad331, A331_1, c331_1, e331, hx331_0, hx331_1, hl331_1, hi331_1⟩ := at_T60 (Kd.V_reads' HO_0.out).2.2 x6_2 p331 q331
                obtain rfl : ad330 = ad331 := (by injection e331)
                obtain ⟨ce331, hce331, hMe331, hcc331⟩ := Kd.V_get HO_0.out z60 x6_2 p331 (by first | exact q331 | exact of_decide_eq_true (by first | (with_reducible assumption) | assumption) | (have e_ := (Kd.V_reads' HO_0.out).1; omega))
                obtain ⟨ua331_1, uc331_1, rfl, ul331_1, ge331_1⟩ := k60_openF hMe331
                have hv331_1 := hcc331 1 _ rfl
                rw [add_field _ _ 1 (by omega)] at hv331_1
                replace hv331_1 := Option.some.inj (hv331_1.symm.trans hx331_1)
                injection hv331_1 with hva_ hvn_ hvc_
                rw [hva_] at ge331_1
                rw [hvc_] at ul331_1
                have HL331_1 := Aside0.mk (show Kd.V (Kd.int .i64) 3 _ w.heap.size _ _ ((rd_T60 l0 x6_2).f1) from Kd.V_mk ul331_1 ge331_1)
                clear hva_ hvn_ hvc_ ge331_1 ul331_1
                clear hcc331 hce331
                have HR331_1 := Aside0.mk hi331_1
                have HC331_1 := Aside0.mk hl331_1
                clear hi331_1 hl331_1
                replace p331 := eq_true p331
                replace q331 := eq_true q331
                have p332 : 0 ≤ (x6_2 : Int) := of_decide_eq_true (by first | (with_reducible assumption) | assumption)
                have q332 : x6_2 < (l0.length : Int) := of_decide_eq_true (by first | (with_reducible assumption) | assumption)
                obtain ⟨ad332, A332_1, c332_1, e332, hx332_0, hx332_1, hl332_1, hi332_1⟩ := at_T60 (Kd.V_reads' HO_0.out).2.2 x6_2 p332 q332
                obtain rfl : ad330 = ad332 := (by injection e332)
                obtain ⟨ce332, hce332, hMe332, hcc332⟩ := Kd.V_get HO_0.out z60 x6_2 p332 (by first | exact q332 | exact of_decide_eq_true (by first | (with_reducible assumption) | assumption) | (have e_ := (Kd.V_reads' HO_0.out).1; omega))
                obtain ⟨ua332_1, uc332_1, rfl, ul332_1, ge332_1⟩ := k60_openF hMe332
                have hv332_1 := hcc332 1 _ rfl
                rw [add_field _ _ 1 (by omega)] at hv332_1
                replace hv332_1 := Option.some.inj (hv332_1.symm.trans hx332_1)
                injection hv332_1 with hva_ hvn_ hvc_
                rw [hva_] at ge332_1
                rw [hvc_] at ul332_1
                have HL332_1 := Aside0.mk (show Kd.V (Kd.int .i64) 3 _ w.heap.size _ _ ((rd_T60 l0 x6_2).f1) from Kd.V_mk ul332_1 ge332_1)
                clear hva_ hvn_ hvc_ ge332_1 ul332_1
                clear hcc332 hce332
                have HR332_1 := Aside0.mk hi332_1
                have HC332_1 := Aside0.mk hl332_1
                clear hi332_1 hl332_1
                replace p332 := eq_true p332
                replace q332 := eq_true q332
                have ea_ := Option.some.inj (hx331_1.symm.trans hx332_1)
                injection ea_ with ea_ en_ ec_
                subst ea_
                subst ec_
                clear en_
                refine start_ (n := 18) (S := fun w' => w'.cell? ⟨gb317, 0, none⟩ = some (.int .i64 a1_0) ∧ w'.cell? ⟨gb317, 1, none⟩ = some (.slice A1_1 l1_1.length c1_1) ∧ w'.cell? (ad330.add ((x6_2).toNat * 2)) = some (.int .i64 ((rd_T60 l0 x6_2).f0)) ∧ w'.cell? ⟨(ad330.add ((x6_2).toNat * 2)).block, (ad330.add ((x6_2).toNat * 2)).off + 1, none⟩ = some (.slice A331_1 ((rd_T60 l0 x6_2).f1).length c331_1) ∧ w'.cell? (ad330.add ((x6_2).toNat * 2)) = some (.int .i64 ((rd_T60 l0 x6_2).f0)) ∧ w'.cell? ⟨(ad330.add ((x6_2).toNat * 2)).block, (ad330.add ((x6_2).toNat * 2)).off + 1, none⟩ = some (.slice A331_1 ((rd_T60 l0 x6_2).f1).length c331_1)) (ds := [15, 16]) #[false, false, false, false, false, false, false, false, false, false, false, false, false, false, false, false, false, false] (by kernel_rfl) rfl rfl ⟨(blk_cell BK317.out 0).trans rfl, (blk_cell BK317.out 1).trans rfl, hx331_0, hx331_1, hx332_0, hx332_1⟩ (fun hHeld => ?_); refine with_tabW tenetref24_into.tab9 tenetref24_into.bits9 (fun HT_ HW_ => ?_)
                generalize w32.drew = w33 at HO_0 HO_7 HO_318001 HL330_1 BK317 HR330_1 HB HL331_1 HL332_1 HR331_1 HR332_1 hx331_0 hx331_1 hx332_0 hx332_1 hHeld ⊢
                refine pure_ (i := 0) (N := some 52) (v := ?_) (a' := ?_) #[true, false, false, false, false, false, false, false, false, false, false, false, false, false, false, false, false, false] rfl rfl (any_of HT_.out (by kernel_rfl)) (fun _ _ _ h => h) (Or.inl ⟨by rfl, ?_⟩) ?_ ?_
                rotate_left
                ·intro w'
                 go_simp
                 with_reducible rfl
                rotate_left
                ·simp only [Act.put, List.setIfInBounds_toArray, List.set_cons_zero, List.set_cons_succ, i64_w, i32_w]
                 rfl
                refine pure_ (i := 1) (N := some 53) (v := ?_) (a' := ?_) #[true, true, false, false, false, false, false, false, false, false, false, false, false, false, false, false, false, false] rfl rfl (any_of HT_.out (by kernel_rfl)) (fun _ _ _ h => h) (Or.inl ⟨by rfl, ?_⟩) ?_ ?_
                rotate_left
                ·intro w'
                 go_simp
                 with_reducible rfl
                rotate_left
                ·simp only [Act.put, List.setIfInBounds_toArray, List.set_cons_zero, List.set_cons_succ, i64_w, i32_w]
                 rfl
                refine pure_ (i := 2) (N := some 54) (v := ?_) (a' := ?_) #[true, true, true, false, false, false, false, false, false, false, false, false, false, false, false, false, false, false] rfl rfl (any_of HT_.out (by kernel_rfl)) (fun _ _ _ h => h) (Or.inl ⟨by rfl, ?_⟩) ?_ ?_
                rotate_left
                ·intro w'
                 go_simp
                 with_reducible rfl
                rotate_left
                ·simp only [Act.put, List.setIfInBounds_toArray, List.set_cons_zero, List.set_cons_succ, i64_w, i32_w]
                 rfl
                refine pure_ (i := 3) (N := some 55) (v := ?_) (a' := ?_) #[true, true, true, true, false, false, false, false, false, false, false, false, false, false, false, false, false, false] rfl rfl (any_of HT_.out (by kernel_rfl)) (fun _ _ _ h => h) (Or.inl ⟨by rfl, ?_⟩) ?_ ?_
                rotate_left
                ·intro w'
                 go_simp
                 with_reducible rfl
                rotate_left
                ·simp only [Act.put, List.setIfInBounds_toArray, List.set_cons_zero, List.set_cons_succ, i64_w, i32_w]
                 rfl
                refine pure_ (i := 4) (N := some 56) (v := ?_) (a' := ?_) #[true, true, true, true, true, false, false, false, false, false, false, false, false, false, false, false, false, false] rfl rfl (any_of HT_.out (by kernel_rfl)) (fun _ _ _ h => h) (Or.inl ⟨by rfl, ?_⟩) ?_ ?_
                rotate_left
                ·intro w'
                 go_simp
                 with_reducible rfl
                rotate_left
                ·simp only [Act.put, List.setIfInBounds_toArray, List.set_cons_zero, List.set_cons_succ, i64_w, i32_w]
                 rfl
                refine pure_ (i := 6) (N := some 58) (v := ?_) (a' := ?_) #[true, true, true, true, true, false, true, false, false, false, false, false, false, false, false, false, false, false] rfl rfl (any_of HT_.out (by kernel_rfl)) (fun _ _ _ h => h) (Or.inl ⟨by rfl, ?_⟩) ?_ ?_
                rotate_left
                ·intro w'
                 go_simp
                 with_reducible rfl
                rotate_left
                ·simp only [Act.put, List.setIfInBounds_toArray, List.set_cons_zero, List.set_cons_succ, i64_w, i32_w]
                 rfl
                refine pure_ (i := 9) (N := some 61) (v := ?_) (a' := ?_) #[true, true, true, true, true, false, true, false, false, true, false, false, false, false, false, false, false, false] rfl rfl (any_of HT_.out (by kernel_rfl)) (fun _ _ _ h => h) (Or.inl ⟨by rfl, ?_⟩) ?_ ?_
                rotate_left
                ·intro w'
                 go_simp
                 with_reducible rfl
                rotate_left
                ·simp only [Act.put, List.setIfInBounds_toArray, List.set_cons_zero, List.set_cons_succ, i64_w, i32_w]
                 rfl
                refine pure_ (i := 10) (N := some 62) (v := ?_) (a' := ?_) #[true, true, true, true, true, false, true, false, false, true, true, false, false, false, false, false, false, false] rfl rfl (any_of HT_.out (by kernel_rfl)) (fun _ _ _ h => h) (Or.inl ⟨by rfl, ?_⟩) ?_ ?_
                rotate_left
                ·intro w'
                 go_simp
                 with_reducible rfl
                rotate_left
                ·simp only [Act.put, List.setIfInBounds_toArray, List.set_cons_zero, List.set_cons_succ, i64_w, i32_w]
                 rfl
                refine pure_ (i := 11) (N := some 63) (v := ?_) (a' := ?_) #[true, true, true, true, true, false, true, false, false, true, true, true, false, false, false, false, false, false] rfl rfl (any_of HT_.out (by kernel_rfl)) (fun _ _ _ h => h) (Or.inl ⟨by rfl, ?_⟩) ?_ ?_
                rotate_left
                ·intro w'
                 go_simp
                 with_reducible rfl
                rotate_left
                ·simp only [Act.put, List.setIfInBounds_toArray, List.set_cons_zero, List.set_cons_succ, i64_w, i32_w]
                 rfl
                refine pure_ (i := 12) (N := some 64) (v := ?_) (a' := ?_) #[true, true, true, true, true, false, true, false, false, true, true, true, true, false, false, false, false, false] rfl rfl (any_of HT_.out (by kernel_rfl)) (fun _ _ _ h => h) (Or.inl ⟨by rfl, ?_⟩) ?_ ?_
                rotate_left
                ·intro w'
                 go_simp
                 with_reducible rfl
                rotate_left
                ·simp only [Act.put, List.setIfInBounds_toArray, List.set_cons_zero, List.set_cons_succ, i64_w, i32_w]
                 rfl
                refine take_ (i := 5) (N := some 57) (v := ?_) (a' := ?_) #[true, true, true, true, true, true, true, false, false, true, true, true, true, false, false, false, false, false] rfl rfl (take_ofW HT_.out HW_.out (by kernel_rfl)) (fun _ _ _ h => h) (Or.inl ⟨by rfl, ?_⟩) hHeld ?_ ?_
                rotate_left
                ·rintro w' ⟨s0, s1, s2, s3, s4, s5⟩
                 go_simp
                 with_reducible rfl
                rotate_left
                ·simp only [Act.put, List.setIfInBounds_toArray, List.set_cons_zero, List.set_cons_succ, i64_w, i32_w]
                 rfl
                refine take_ (i := 7) (N := some 59) (v := ?_) (a' := ?_) #[true, true, true, true, true, true, true, true, false, true, true, true, true, false, false, false, false, false] rfl rfl (take_ofW HT_.out HW_.out (by kernel_rfl)) (fun _ _ _ h => h) (Or.inl ⟨by rfl, ?_⟩) hHeld ?_ ?_
                rotate_left
                ·rintro w' ⟨s0, s1, s2, s3, s4, s5⟩
                 go_simp
                 with_reducible rfl
                rotate_left
                ·simp only [Act.put, List.setIfInBounds_toArray, List.set_cons_zero, List.set_cons_succ, i64_w, i32_w]
                 rfl
                refine pure_ (i := 8) (N := some 60) (v := ?_) (a' := ?_) #[true, true, true, true, true, true, true, true, true, true, true, true, true, false, false, false, false, false] rfl rfl (any_of HT_.out (by kernel_rfl)) (fun _ _ _ h => h) (Or.inl ⟨by rfl, ?_⟩) ?_ ?_
                rotate_left
                ·intro w'
                 go_simp
                 with_reducible rfl
                rotate_left
                ·simp only [Act.put, List.setIfInBounds_toArray, List.set_cons_zero, List.set_cons_succ, i64_w, i32_w]
                 rfl
                refine take_ (i := 13) (N := some 65) (v := ?_) (a' := ?_) #[true, true, true, true, true, true, true, true, true, true, true, true, true, true, false, false, false, false] rfl rfl (take_ofW HT_.out HW_.out (by kernel_rfl)) (fun _ _ _ h => h) (Or.inl ⟨by rfl, ?_⟩) hHeld ?_ ?_
                rotate_left
                ·rintro w' ⟨s0, s1, s2, s3, s4, s5⟩
                 go_simp
                 with_reducible rfl
                rotate_left
                ·simp only [Act.put, List.setIfInBounds_toArray, List.set_cons_zero, List.set_cons_succ, i64_w, i32_w]
                 rfl
                refine pure_ (i := 14) (N := some 66) (v := ?_) (a' := ?_) #[true, true, true, true, true, true, true, true, true, true, true, true, true, true, true, false, false, false] rfl rfl (any_of HT_.out (by kernel_rfl)) (fun _ _ _ h => h) (Or.inl ⟨by rfl, ?_⟩) ?_ ?_
                rotate_left
                ·intro w'
                 go_simp
                 with_reducible rfl
                rotate_left
                ·simp only [Act.put, List.setIfInBounds_toArray, List.set_cons_zero, List.set_cons_succ, i64_w, i32_w]
                 rfl
                refine last_ (i := 15) (N := some 67) #[true, true, true, true, true, true, true, true, true, true, true, true, true, true, true, true, false, false] rfl rfl (one_of HT_.out (by kernel_rfl)) (by decide) (fun K hK => ?_)
                refine value_ (w1 := ?_) (v := ?_) (by rfl) rfl ?_ ?_
                rotate_left 2
                ·go_simp
                 constructor
                 ·rfl
                 ·rfl
                refine hK.out _ _ ?_
                clear hK K
                refine norm_ (a' := ?_) ?_ ?_
                rotate_left
                ·show Act.put _ (some 67) _ = _
                 simp only [Act.put, List.setIfInBounds_toArray, List.set_cons_zero, List.set_cons_succ, i64_w, i32_w]
                 rfl
                refine last_ (i := 16) (N := some 68) #[true, true, true, true, true, true, true, true, true, true, true, true, true, true, true, true, true, false] rfl rfl (one_of HT_.out (by kernel_rfl)) (by decide) (fun K hK => ?_)
                refine Kd.N_append_step k60 (w0 := w) w.heap.size (by rfl) (.tmp 52) (.tmp 67) 22 60 (.agg #[(.int .i64 0), (.slice none 0 0)]) 32 rfl Try.underlying22 info60 rfl (by decide) (by omega) v326 y325 (⟨wrap64 (((rd_T60 l0 x6_2).f0) + a1_0), (rd_T60 l0 x6_2).f1⟩ : S60) [.int .i64 (wrap64 (((rd_T60 l0 x6_2).f0) + a1_0)), .slice A331_1 ((rd_T60 l0 x6_2).f1).length c331_1] (fun k_ => ((P0_ k_ ∨ P1_1_ k_) ∨ w.heap.size ≤ k_) ∧ k_ ≠ gb317) (fun k_ => ((fun k_ => ((P0_ k_ ∨ P1_1_ k_) ∨ w.heap.size ≤ k_) ∧ k_ ≠ gb317)) k_ ∧ some k_ ≠ (v326 : Value).ownBlock) rfl rfl ?aP (fun _ hk => hk) ?aF ?aO ?aB ?aS ?aL ?_
                (case aP => exact (k60_mkF _ _ (⟨wrap64 (((rd_T60 l0 x6_2).f0) + a1_0), (rd_T60 l0 x6_2).f1⟩ : S60) (Kd.V_reads' (Kd.V_mono (ok' := (fun k_ => ((fun k_ => ((P0_ k_ ∨ P1_1_ k_) ∨ w.heap.size ≤ k_) ∧ k_ ≠ gb317)) k_ ∧ some k_ ≠ (v326 : Value).ownBlock)) (HL332_1.out) (fun k_ hk => ⟨⟨hk.1, hk.2.2⟩, hk.2.1⟩))).2.1 (Kd.V_F (Kd.V_mono (ok' := (fun k_ => ((fun k_ => ((P0_ k_ ∨ P1_1_ k_) ∨ w.heap.size ≤ k_) ∧ k_ ≠ gb317)) k_ ∧ some k_ ≠ (v326 : Value).ownBlock)) (HL332_1.out) (fun k_ hk => ⟨⟨hk.1, hk.2.2⟩, hk.2.1⟩)))))
                (case aB => exact (by repeat (first | (with_reducible first | exact HB.out | apply below_alloc | apply pw_below_drewN | apply below_drew1 | refine below_set ?_ GE317.out) | exact HB.out)))
                (case aF => exact (fun k_ hk => ⟨(.inr (Nat.le_trans (below_size (by repeat (first | (with_reducible first | exact HB.out | apply below_alloc | apply pw_below_drewN | apply below_drew1 | refine below_set ?_ GE317.out) | exact HB.out))) hk)), Kd.freshB (g := gb317) (o := .cells #[.int .i64 a1_0, .slice A1_1 l1_1.length c1_1] 60 (0, 0)) (by (with_reducible repeat (first | refine blk_drewN ?_ _ | refine blk_drew ?_ | refine blk_alloc ?_ _)); exact BK317.out) k_ hk⟩))
                (case aO => exact (by (with_reducible repeat (first | apply Kd.N_alloc | apply Kd.N_drewN | apply Kd.N_drew)); exact HO_7.out))
                (case aS => exact (below_size (by repeat (first | (with_reducible first | exact HB.out | apply below_alloc | apply pw_below_drewN | apply below_drew1 | refine below_set ?_ GE317.out) | exact HB.out))))
                (case aL => have := LMc27.out; omega)
                intro v334 w34 ho hb hg hat
                rw [← Ny333.out] at ho
                have n0_ := Aside0.mk (Kd.V_afterv (ok := (fun k_ => ((P0_ k_ ∨ P1_1_ k_) ∨ w.heap.size ≤ k_) ∧ k_ ≠ gb317)) (by (with_reducible repeat (first | apply Kd.V_alloc | apply Kd.V_drewN | apply Kd.V_drew)); exact Kd.V_mono HO_0.out (fun _ hk => ⟨⟨hk.1, hk.2.2⟩, hk.2.1⟩)) hg hat)
                have n1_ := Aside0.mk (Kd.V_afterv (ok := (fun k_ => ((P0_ k_ ∨ P1_1_ k_) ∨ w.heap.size ≤ k_) ∧ k_ ≠ gb317)) (by (with_reducible repeat (first | apply Kd.V_alloc | apply Kd.V_drewN | apply Kd.V_drew)); exact Kd.V_mono HO_318001.out (fun _ hk => ⟨⟨hk.1, hk.2.2⟩, hk.2.1⟩)) hg hat)
                have n2_ := Aside0.mk (blk_grown (g := gb317) (o := .cells #[.int .i64 a1_0, .slice A1_1 l1_1.length c1_1] 60 (0, 0)) (by (with_reducible repeat (first | refine blk_drewN ?_ _ | refine blk_drew ?_ | refine blk_alloc ?_ _)); exact BK317.out) hg (Kd.N_away HO_7.out (fun _ hk => hk.2)))
                have n3_ := Aside0.mk (Kd.V_afterv (ok := (fun k_ => ((P0_ k_ ∨ P1_1_ k_) ∨ w.heap.size ≤ k_) ∧ k_ ≠ gb317)) (by (with_reducible repeat (first | apply Kd.V_alloc | apply Kd.V_drewN | apply Kd.V_drew)); exact Kd.V_mono HL330_1.out (fun _ hk => ⟨⟨hk.1, hk.2.2⟩, hk.2.1⟩)) hg hat)
                have n4_ := Aside0.mk (Kd.V_afterv (ok := (fun k_ => ((P0_ k_ ∨ P1_1_ k_) ∨ w.heap.size ≤ k_) ∧ k_ ≠ gb317)) (by (with_reducible repeat (first | apply Kd.V_alloc | apply Kd.V_drewN | apply Kd.V_drew)); exact Kd.V_mono HL331_1.out (fun _ hk => ⟨⟨hk.1, hk.2.2⟩, hk.2.1⟩)) hg hat)
                have n5_ := Aside0.mk (Kd.V_afterv (ok := (fun k_ => ((P0_ k_ ∨ P1_1_ k_) ∨ w.heap.size ≤ k_) ∧ k_ ≠ gb317)) (by (with_reducible repeat (first | apply Kd.V_alloc | apply Kd.V_drewN | apply Kd.V_drew)); exact Kd.V_mono HL332_1.out (fun _ hk => ⟨⟨hk.1, hk.2.2⟩, hk.2.1⟩)) hg hat)
                have n6_ := Aside0.mk (hb)
                have n7_ := Aside0.mk (ho)
                clear HO_0
                clear HO_318001
                clear BK317
                clear HL330_1
                clear HL331_1
                clear HL332_1
                clear HB
                clear HO_7
                have HO_0 := n0_
                have HO_318001 := n1_
                have BK317 := n2_
                have HL330_1 := n3_
                have HL331_1 := n4_
                have HL332_1 := n5_
                have HB := n6_
                have HO335 := n7_
                clear n0_ n1_ n2_ n3_ n4_ n5_ n6_ n7_
                clear ho hb hg hat
                refine hK.out _ _ ?_
                clear hK K
                refine norm_ (a' := ?_) ?_ ?_
                rotate_left
                ·show Act.put _ (some 68) _ = _
                 simp only [Act.put, List.setIfInBounds_toArray, List.set_cons_zero, List.set_cons_succ, i64_w, i32_w]
                 rfl
                refine pure_ (i := 17) (N := some 7) (v := ?_) (a' := ?_) #[true, true, true, true, true, true, true, true, true, true, true, true, true, true, true, true, true, true] rfl rfl (any_of HT_.out (by kernel_rfl)) (fun _ _ _ h => h) (Or.inl ⟨by rfl, ?_⟩) ?_ ?_
                rotate_left
                ·intro w'
                 go_simp
                 with_reducible rfl
                rotate_left
                ·simp only [Act.put, List.setIfInBounds_toArray, List.set_cons_zero, List.set_cons_succ, i64_w, i32_w]
                 rfl
                refine done_ (done_of HT_.out (by kernel_rfl)) ?_
                have q35 : ((ji28) : Int) ≤ ((l0.length : Int) : Int) := of_decide_eq_true (by first | (with_reducible assumption) | assumption)
                obtain ⟨i035, hi035, _, hsz35, _⟩ := info_parts info60
                have hroom35 : l0.length ≤ c0 := (Kd.V_reads' HO_0.out).2.1
                have hC35 : Kd.F k60 _ _ (some ad330) l0.length l0 := (Kd.V_at (base := w.heap.size) HO_0.out).2.2
                have q035 : (0 : Int) ≤ ((ji28) : Int) := of_decide_eq_true (by first | (with_reducible assumption) | assumption)
                have hcut35 := cut_from (P := Try.prog) 22 60 .i64 Try.underlying22 hi035 2 hsz35 (some ad330) l0.length c0 (ji28) q035 q35
                have hr35 := Kd.F_cut (m := ((ji28) : Int).toNat) (c := c0) hC35 (by omega) hroom35
                obtain ⟨A35, hA35⟩ : ∃ A1, A1 = (if c0 = ((ji28) : Int).toNat then (some ad330) else ((some ad330) : Option Addr).map (·.add (((ji28) : Int).toNat * 2))) := ⟨_, rfl⟩
                obtain ⟨c35, hc35⟩ : ∃ c1, c1 = c0 - ((ji28) : Int).toNat := ⟨_, rfl⟩
                have hy35 : y336.length = l0.length - ((ji28) : Int).toNat := (by rw [Ny336.out, List.length_drop] <;> omega)
                rw [show (l0).drop ((ji28) : Int).toNat = y336 from Ny336.out.symm] at hr35
                replace hr35 : Kd.F k60 _ _ A35 y336.length y336 := (by rw [hA35]; exact hr35)
                rw [← hy35, ← hA35, ← hc35] at hcut35
                have HO340 := Aside0.mk (show Kd.V k60 60 _ w.heap.size _ (.slice A35 y336.length c35) y336 from Kd.V_mk (by rw [hy35, hc35]; exact Nat.sub_le_sub_right hroom35 _) hr35)
                have HC340 := Aside0.mk (show y336.length ≤ c35 from by rw [hy35, hc35]; exact Nat.sub_le_sub_right hroom35 _)
                clear hr35 hC35 hroom35 hi035 hsz35 hc35
                have KY35 := Aside0.mk hy35
                have KA35 := Aside0.mk hA35
                clear hy35 hA35
                replace q35 := eq_true q35
                try go_wp2_with (first | ((with_reducible refine gate_builtin (b := .append) (xs := #[.tmp 69, .tmp 73]) rfl ?_); at_builtin; refine Kd.N_append_rows k60 (w0 := w) w.heap.size rfl (.tmp 69) (.tmp 73) 22 60 (.agg #[(.int .i64 0), (.slice none 0 0)]) 32 rfl Try.underlying22 info60 rfl (by decide) (by omega) v334 y333 y336 _ _ _ (fun k_ => ((P0_ k_ ∨ P1_1_ k_) ∨ w.heap.size ≤ k_) ∧ k_ ≠ gb317) (fun k_ => ((fun k_ => ((P0_ k_ ∨ P1_1_ k_) ∨ w.heap.size ≤ k_) ∧ k_ ≠ gb317)) k_ ∧ some k_ ≠ (v334 : Value).ownBlock) rfl rfl ?aO ?aR (fun _ hk => hk) ?aF ?aB ?aS ?aL ?_; (case aR => exact (by skip; exact Kd.V_F (Kd.V_mono (ok' := (fun k_ => ((fun k_ => ((P0_ k_ ∨ P1_1_ k_) ∨ w.heap.size ≤ k_) ∧ k_ ≠ gb317)) k_ ∧ some k_ ≠ (v334 : Value).ownBlock)) (HO340.out) (fun k_ hk => ⟨⟨hk.1.1, hk.1.2⟩, hk.2⟩)))); (case aB => exact (by repeat (first | (with_reducible first | exact HB.out | apply below_alloc | apply pw_below_drewN | apply below_drew1 | refine below_set ?_ GE317.out) | exact HB.out))); (case aF => exact (fun k_ hk => ⟨(.inr (Nat.le_trans (below_size (by repeat (first | (with_reducible first | exact HB.out | apply below_alloc | apply pw_below_drewN | apply below_drew1 | refine below_set ?_ GE317.out) | exact HB.out))) hk)), Kd.freshB (g := gb317) (o := .cells #[.int .i64 a1_0, .slice A1_1 l1_1.length c1_1] 60 (0, 0)) (by (with_reducible repeat (first | refine blk_drewN ?_ _ | refine blk_drew ?_ | refine blk_alloc ?_ _)); exact BK317.out) k_ hk⟩)); (case aO => exact (by (with_reducible repeat (first | apply Kd.N_alloc | apply Kd.N_drewN | apply Kd.N_drew)); exact HO335.out)); (case aS => exact (below_size (by repeat (first | (with_reducible first | exact HB.out | apply below_alloc | apply pw_below_drewN | apply below_drew1 | refine below_set ?_ GE317.out) | exact HB.out)))); (case aL => have := LMc31.out; omega); intro v342 w36 ho hb hg hat; rw [← Ny341.out] at ho; have n0_ := Aside0.mk (Kd.V_afterv (ok := (fun k_ => ((P0_ k_ ∨ P1_1_ k_) ∨ w.heap.size ≤ k_) ∧ k_ ≠ gb317)) (by (with_reducible repeat (first | apply Kd.V_alloc | apply Kd.V_drewN | apply Kd.V_drew)); exact HO_0.out) hg hat); have n1_ := Aside0.mk (Kd.V_afterv (ok := (fun k_ => ((P0_ k_ ∨ P1_1_ k_) ∨ w.heap.size ≤ k_) ∧ k_ ≠ gb317)) (by (with_reducible repeat (first | apply Kd.V_alloc | apply Kd.V_drewN | apply Kd.V_drew)); exact HO_318001.out) hg hat); have n2_ := Aside0.mk (blk_grown (g := gb317) (o := .cells #[.int .i64 a1_0, .slice A1_1 l1_1.length c1_1] 60 (0, 0)) (by (with_reducible repeat (first | refine blk_drewN ?_ _ | refine blk_drew ?_ | refine blk_alloc ?_ _)); exact BK317.out) hg (Kd.N_away HO335.out (fun _ hk => hk.2))); have n3_ := Aside0.mk (Kd.V_afterv (ok := (fun k_ => ((P0_ k_ ∨ P1_1_ k_) ∨ w.heap.size ≤ k_) ∧ k_ ≠ gb317)) (by (with_reducible repeat (first | apply Kd.V_alloc | apply Kd.V_drewN | apply Kd.V_drew)); exact HL330_1.out) hg hat); have n4_ := Aside0.mk (Kd.V_afterv (ok := (fun k_ => ((P0_ k_ ∨ P1_1_ k_) ∨ w.heap.size ≤ k_) ∧ k_ ≠ gb317)) (by (with_reducible repeat (first | apply Kd.V_alloc | apply Kd.V_drewN | apply Kd.V_drew)); exact HL331_1.out) hg hat); have n5_ := Aside0.mk (Kd.V_afterv (ok := (fun k_ => ((P0_ k_ ∨ P1_1_ k_) ∨ w.heap.size ≤ k_) ∧ k_ ≠ gb317)) (by (with_reducible repeat (first | apply Kd.V_alloc | apply Kd.V_drewN | apply Kd.V_drew)); exact HL332_1.out) hg hat); have n6_ := Aside0.mk (Kd.V_afterv (ok := (fun k_ => ((P0_ k_ ∨ P1_1_ k_) ∨ w.heap.size ≤ k_) ∧ k_ ≠ gb317)) (by (with_reducible repeat (first | apply Kd.V_alloc | apply Kd.V_drewN | apply Kd.V_drew)); exact HO340.out) hg hat); have n7_ := Aside0.mk (hb); have n8_ := Aside0.mk (ho); clear HO_0; clear HO_318001; clear BK317; clear HL330_1; clear HL331_1; clear HL332_1; clear HO340; clear HB; clear HO335; have HO_0 := n0_; have HO_318001 := n1_; have BK317 := n2_; have HL330_1 := n3_; have HL331_1 := n4_; have HL332_1 := n5_; have HO340 := n6_; have HB := n7_; have HO343 := n8_; clear n0_ n1_ n2_ n3_ n4_ n5_ n6_ n7_ n8_; clear ho hb hg hat))
                go_ret2
                exact ⟨_, by first | rfl | (simp [errW_none, errW_some] <;> rfl) | (simp only [← hji28]; first | rfl | (simp [errW_none, errW_some] <;> rfl)) | (simp [*, errW_none, errW_some] <;> rfl), by (with_reducible repeat (first | apply Kd.N_alloc | apply Kd.N_drewN | apply Kd.N_drew)); exact Kd.N_mono HO343.out (fun _ hk => hk.1), by repeat (first | (with_reducible first | exact HB.out | apply below_alloc | apply pw_below_drewN | apply below_drew1 | refine below_set ?_ GE317.out) | exact HB.out)⟩
               ·rw [if_neg c31] at H
                exact absurd H (by simp)
              ·rw [if_neg c30] at H
               exact absurd H (by simp)
             ·rw [if_neg c29] at H
              exact absurd H (by simp)
            ·rw [if_neg c27] at H
             exact absurd H (by simp)
          ·rw [if_neg c24] at H
           exact absurd H (by simp)
         ·rw [if_neg c23] at H
          exact absurd H (by simp)
        ·replace c22 := Bool.eq_false_iff.mpr c22
         subst c22
         have H1 : (if y325.length < 4398046511104 then ((some (y325 ++ [(⟨a1_0, l1_1⟩ : S60)] : List (S60))).bind fun y344 => (if 0 ≤ x6_2 then (if x6_2 ≤ (l0.length : Int) then ((some (l0.drop (x6_2 : Int).toNat : List (S60))).bind fun y347 => (if y344.length + y347.length < 4398046511104 then (some ((y344 ++ y347), true)) else (none))) else (none)) else (none))) else (none)) = some (r1, r2) := by rw [if_neg (show ¬ (false = true) by decide)] at H; exact H
         clear H
         have H := H1
         clear H1
         by_cases c37 : y325.length < 4398046511104
         ·rw [if_pos c37] at H
          have LMc37 := Aside0.mk c37
          clear c37
          obtain ⟨y344, hy344⟩ : ∃ y_ : List (S60), y_ = (y325 ++ [(⟨a1_0, l1_1⟩ : S60)]) := ⟨_, rfl⟩
          replace H : (if 0 ≤ x6_2 then (if x6_2 ≤ (l0.length : Int) then ((some (l0.drop (x6_2 : Int).toNat : List (S60))).bind fun y347 => (if y344.length + y347.length < 4398046511104 then (some ((y344 ++ y347), true)) else (none))) else (none)) else (none)) = some (r1, r2) := by first | (rw [hy344]; with_reducible exact H) | (have H2_ := (Option.bind_some _ _).symm.trans H; rw [hy344]; with_reducible exact H2_) | (have H2_ := (Option.bind_some _ _).symm.trans H; with_reducible exact H2_) | with_reducible exact H | (rw [hy344]; exact H) | exact H
          have Ny344 := Aside0.mk hy344
          clear hy344
          by_cases c38 : 0 ≤ x6_2
          ·rw [if_pos c38] at H
           have c38b0 := eq_true c38
           have c38b1 : decide (0 ≤ x6_2) = true := decide_eq_true c38
           clear c38
           by_cases c39 : x6_2 ≤ (l0.length : Int)
           ·rw [if_pos c39] at H
            have c39b0 := eq_true c39
            have c39b1 : decide (x6_2 ≤ (l0.length : Int)) = true := decide_eq_true c39
            clear c39
            obtain ⟨y347, hy347⟩ : ∃ y_ : List (S60), y_ = (l0.drop (x6_2 : Int).toNat) := ⟨_, rfl⟩
            replace H : (if y344.length + y347.length < 4398046511104 then (some ((y344 ++ y347), true)) else (none)) = some (r1, r2) := by first | (rw [hy347]; with_reducible exact H) | (have H2_ := (Option.bind_some _ _).symm.trans H; rw [hy347]; with_reducible exact H2_) | (have H2_ := (Option.bind_some _ _).symm.trans H; with_reducible exact H2_) | with_reducible exact H | (rw [hy347]; exact H) | exact H
            have Ny347 := Aside0.mk hy347
            clear hy347
            by_cases c40 : y344.length + y347.length < 4398046511104
            ·rw [if_pos c40] at H
             have LMc40 := Aside0.mk c40
             clear c40
             obtain ⟨y352, hy352⟩ : ∃ y_ : List (S60), y_ = (y344 ++ y347) := ⟨_, rfl⟩
             replace H : (some (y352, true)) = some (r1, r2) := by first | (rw [hy352]; with_reducible exact H) | (have H2_ := (Option.bind_some _ _).symm.trans H; rw [hy352]; with_reducible exact H2_) | (have H2_ := (Option.bind_some _ _).symm.trans H; with_reducible exact H2_) | with_reducible exact H | (rw [hy352]; exact H) | exact H
             have Ny352 := Aside0.mk hy352
             clear hy352
             simp only [Option.some.injEq, Prod.mk.injEq] at H
             obtain ⟨rfl, rfl⟩ := H
             have hcz41_0 : wc.cell? ⟨gb317, 0, none⟩ = some (.int .i64 a1_0) := (blk_cell BK317.out 0).trans rfl
             have hcz41_1 : wc.cell? ⟨gb317, 1, none⟩ = some (.slice A1_1 l1_1.length c1_1) := (blk_cell BK317.out 1).trans rfl
             have hfz41_0 := blk_frozen BK317.out 0
             have hfz41_1 := blk_frozen BK317.out 1
             go_wp2_with (first | ((with_reducible refine gate_builtin (b := .append) (xs := #[.tmp 75, .tmp 77]) rfl ?_); at_builtin; refine Kd.N_append k60 (w0 := w) w.heap.size rfl (.tmp 75) (.tmp 77) 22 60 (.agg #[(.int .i64 0), (.slice none 0 0)]) 32 rfl Try.underlying22 info60 rfl (by decide) (by omega) v326 y325 (⟨a1_0, l1_1⟩ : S60) [.int .i64 a1_0, .slice A1_1 l1_1.length c1_1] (fun k_ => ((P0_ k_ ∨ P1_1_ k_) ∨ w.heap.size ≤ k_) ∧ k_ ≠ gb317) (fun k_ => ((fun k_ => ((P0_ k_ ∨ P1_1_ k_) ∨ w.heap.size ≤ k_) ∧ k_ ≠ gb317)) k_ ∧ some k_ ≠ (v326 : Value).ownBlock) rfl rfl ?aP (fun _ hk => hk) ?aF ?aO ?aB ?aS ?aL ?_; (case aP => exact (k60_mkF _ _ (⟨a1_0, l1_1⟩ : S60) (Kd.V_reads' (Kd.V_mono (ok' := (fun k_ => ((fun k_ => ((P0_ k_ ∨ P1_1_ k_) ∨ w.heap.size ≤ k_) ∧ k_ ≠ gb317)) k_ ∧ some k_ ≠ (v326 : Value).ownBlock)) (HO_318001.out) (fun k_ hk => ⟨⟨hk.1, hk.2.2⟩, hk.2.1⟩))).2.1 (Kd.V_F (Kd.V_mono (ok' := (fun k_ => ((fun k_ => ((P0_ k_ ∨ P1_1_ k_) ∨ w.heap.size ≤ k_) ∧ k_ ≠ gb317)) k_ ∧ some k_ ≠ (v326 : Value).ownBlock)) (HO_318001.out) (fun k_ hk => ⟨⟨hk.1, hk.2.2⟩, hk.2.1⟩))))); (case aB => exact (by repeat (first | (with_reducible first | exact HB.out | apply below_alloc | apply pw_below_drewN | apply below_drew1 | refine below_set ?_ GE317.out) | exact HB.out))); (case aF => exact (fun k_ hk => ⟨(.inr (Nat.le_trans (below_size (by repeat (first | (with_reducible first | exact HB.out | apply below_alloc | apply pw_below_drewN | apply below_drew1 | refine below_set ?_ GE317.out) | exact HB.out))) hk)), Kd.freshB (g := gb317) (o := .cells #[.int .i64 a1_0, .slice A1_1 l1_1.length c1_1] 60 (0, 0)) (by (with_reducible repeat (first | refine blk_drewN ?_ _ | refine blk_drew ?_ | refine blk_alloc ?_ _)); exact BK317.out) k_ hk⟩)); (case aO => exact (by (with_reducible repeat (first | apply Kd.N_alloc | apply Kd.N_drewN | apply Kd.N_drew)); exact HO_7.out)); (case aS => exact (below_size (by repeat (first | (with_reducible first | exact HB.out | apply below_alloc | apply pw_below_drewN | apply below_drew1 | refine below_set ?_ GE317.out) | exact HB.out)))); (case aL => have := LMc37.out; omega); intro v345 w42 ho hb hg hat; rw [← Ny344.out] at ho; have n0_ := Aside0.mk (Kd.V_afterv (ok := (fun k_ => ((P0_ k_ ∨ P1_1_ k_) ∨ w.heap.size ≤ k_) ∧ k_ ≠ gb317)) (by (with_reducible repeat (first | apply Kd.V_alloc | apply Kd.V_drewN | apply Kd.V_drew)); exact Kd.V_mono HO_0.out (fun _ hk => ⟨⟨hk.1, hk.2.2⟩, hk.2.1⟩)) hg hat); have n1_ := Aside0.mk (Kd.V_afterv (ok := (fun k_ => ((P0_ k_ ∨ P1_1_ k_) ∨ w.heap.size ≤ k_) ∧ k_ ≠ gb317)) (by (with_reducible repeat (first | apply Kd.V_alloc | apply Kd.V_drewN | apply Kd.V_drew)); exact Kd.V_mono HO_318001.out (fun _ hk => ⟨⟨hk.1, hk.2.2⟩, hk.2.1⟩)) hg hat); have n2_ := Aside0.mk (blk_grown (g := gb317) (o := .cells #[.int .i64 a1_0, .slice A1_1 l1_1.length c1_1] 60 (0, 0)) (by (with_reducible repeat (first | refine blk_drewN ?_ _ | refine blk_drew ?_ | refine blk_alloc ?_ _)); exact BK317.out) hg (Kd.N_away HO_7.out (fun _ hk => hk.2))); have n3_ := Aside0.mk (hb); have n4_ := Aside0.mk (ho); clear HO_0; clear HO_318001; clear BK317; clear HB; clear HO_7; have HO_0 := n0_; have HO_318001 := n1_; have BK317 := n2_; have HB := n3_; have HO346 := n4_; clear n0_ n1_ n2_ n3_ n4_; clear ho hb hg hat; have q43 : (x6_2 : Int) ≤ ((l0.length : Int) : Int) := of_decide_eq_true (by first | (with_reducible assumption) | assumption); obtain ⟨i043, hi043, _, hsz43, _⟩ := info_parts info60; have hroom43 : l0.length ≤ c0 := (Kd.V_reads' HO_0.out).2.1; have hC43 : Kd.F k60 _ _ A0 l0.length l0 := (Kd.V_at (base := w.heap.size) HO_0.out).2.2; have q043 : (0 : Int) ≤ (x6_2 : Int) := of_decide_eq_true (by first | (with_reducible assumption) | assumption); have hcut43 := cut_from (P := Try.prog) 22 60 .i64 Try.underlying22 hi043 2 hsz43 A0 l0.length c0 x6_2 q043 q43; have hr43 := Kd.F_cut (m := (x6_2 : Int).toNat) (c := c0) hC43 (by omega) hroom43; obtain ⟨A43, hA43⟩ : ∃ A1, A1 = (if c0 = (x6_2 : Int).toNat then A0 else (A0 : Option Addr).map (·.add ((x6_2 : Int).toNat * 2))) := ⟨_, rfl⟩; obtain ⟨c43, hc43⟩ : ∃ c1, c1 = c0 - (x6_2 : Int).toNat := ⟨_, rfl⟩; have hy43 : y347.length = l0.length - (x6_2 : Int).toNat := (by rw [Ny347.out, List.length_drop] <;> omega); rw [show (l0).drop (x6_2 : Int).toNat = y347 from Ny347.out.symm] at hr43; replace hr43 : Kd.F k60 _ _ A43 y347.length y347 := (by rw [hA43]; exact hr43); rw [← hy43, ← hA43, ← hc43] at hcut43; have HO351 := Aside0.mk (show Kd.V k60 60 _ w.heap.size _ (.slice A43 y347.length c43) y347 from Kd.V_mk (by rw [hy43, hc43]; exact Nat.sub_le_sub_right hroom43 _) hr43); have HC351 := Aside0.mk (show y347.length ≤ c43 from by rw [hy43, hc43]; exact Nat.sub_le_sub_right hroom43 _); clear hr43 hC43 hroom43 hi043 hsz43 hc43; have KY43 := Aside0.mk hy43; have KA43 := Aside0.mk hA43; clear hy43 hA43; replace q43 := eq_true q43) | ((with_reducible refine gate_builtin (b := .append) (xs := #[.tmp 79, .tmp 82]) rfl ?_); at_builtin; refine Kd.N_append_rows k60 (w0 := w) w.heap.size rfl (.tmp 79) (.tmp 82) 22 60 (.agg #[(.int .i64 0), (.slice none 0 0)]) 32 rfl Try.underlying22 info60 rfl (by decide) (by omega) v345 y344 y347 _ _ _ (fun k_ => ((P0_ k_ ∨ P1_1_ k_) ∨ w.heap.size ≤ k_) ∧ k_ ≠ gb317) (fun k_ => ((fun k_ => ((P0_ k_ ∨ P1_1_ k_) ∨ w.heap.size ≤ k_) ∧ k_ ≠ gb317)) k_ ∧ some k_ ≠ (v345 : Value).ownBlock) rfl rfl ?aO ?aR (fun _ hk => hk) ?aF ?aB ?aS ?aL ?_; (case aR => exact (by skip; exact Kd.V_F (Kd.V_mono (ok' := (fun k_ => ((fun k_ => ((P0_ k_ ∨ P1_1_ k_) ∨ w.heap.size ≤ k_) ∧ k_ ≠ gb317)) k_ ∧ some k_ ≠ (v345 : Value).ownBlock)) (HO351.out) (fun k_ hk => ⟨⟨hk.1.1, hk.1.2⟩, hk.2⟩)))); (case aB => exact (by repeat (first | (with_reducible first | exact HB.out | apply below_alloc | apply pw_below_drewN | apply below_drew1 | refine below_set ?_ GE317.out) | exact HB.out))); (case aF => exact (fun k_ hk => ⟨(.inr (Nat.le_trans (below_size (by repeat (first | (with_reducible first | exact HB.out | apply below_alloc | apply pw_below_drewN | apply below_drew1 | refine below_set ?_ GE317.out) | exact HB.out))) hk)), Kd.freshB (g := gb317) (o := .cells #[.int .i64 a1_0, .slice A1_1 l1_1.length c1_1] 60 (0, 0)) (by (with_reducible repeat (first | refine blk_drewN ?_ _ | refine blk_drew ?_ | refine blk_alloc ?_ _)); exact BK317.out) k_ hk⟩)); (case aO => exact (by (with_reducible repeat (first | apply Kd.N_alloc | apply Kd.N_drewN | apply Kd.N_drew)); exact HO346.out)); (case aS => exact (below_size (by repeat (first | (with_reducible first | exact HB.out | apply below_alloc | apply pw_below_drewN | apply below_drew1 | refine below_set ?_ GE317.out) | exact HB.out)))); (case aL => have := LMc40.out; omega); intro v353 w44 ho hb hg hat; rw [← Ny352.out] at ho; have n0_ := Aside0.mk (Kd.V_afterv (ok := (fun k_ => ((P0_ k_ ∨ P1_1_ k_) ∨ w.heap.size ≤ k_) ∧ k_ ≠ gb317)) (by (with_reducible repeat (first | apply Kd.V_alloc | apply Kd.V_drewN | apply Kd.V_drew)); exact HO_0.out) hg hat); have n1_ := Aside0.mk (Kd.V_afterv (ok := (fun k_ => ((P0_ k_ ∨ P1_1_ k_) ∨ w.heap.size ≤ k_) ∧ k_ ≠ gb317)) (by (with_reducible repeat (first | apply Kd.V_alloc | apply Kd.V_drewN | apply Kd.V_drew)); exact HO_318001.out) hg hat); have n2_ := Aside0.mk (blk_grown (g := gb317) (o := .cells #[.int .i64 a1_0, .slice A1_1 l1_1.length c1_1] 60 (0, 0)) (by (with_reducible repeat (first | refine blk_drewN ?_ _ | refine blk_drew ?_ | refine blk_alloc ?_ _)); exact BK317.out) hg (Kd.N_away HO346.out (fun _ hk => hk.2))); have n3_ := Aside0.mk (Kd.V_afterv (ok := (fun k_ => ((P0_ k_ ∨ P1_1_ k_) ∨ w.heap.size ≤ k_) ∧ k_ ≠ gb317)) (by (with_reducible repeat (first | apply Kd.V_alloc | apply Kd.V_drewN | apply Kd.V_drew)); exact HO351.out) hg hat); have n4_ := Aside0.mk (hb); have n5_ := Aside0.mk (ho); clear HO_0; clear HO_318001; clear BK317; clear HO351; clear HB; clear HO346; have HO_0 := n0_; have HO_318001 := n1_; have BK317 := n2_; have HO351 := n3_; have HB := n4_; have HO354 := n5_; clear n0_ n1_ n2_ n3_ n4_ n5_; clear ho hb hg hat))
             go_ret2
             exact ⟨_, by first | rfl | (simp [errW_none, errW_some] <;> rfl) | (simp [*, errW_none, errW_some] <;> rfl), by (with_reducible repeat (first | apply Kd.N_alloc | apply Kd.N_drewN | apply Kd.N_drew)); exact Kd.N_mono HO354.out (fun _ hk => hk.1), by repeat (first | (with_reducible first | exact HB.out | apply below_alloc | apply pw_below_drewN | apply below_drew1 | refine below_set ?_ GE317.out) | exact HB.out)⟩
            ·rw [if_neg c40] at H
             exact absurd H (by simp)
           ·rw [if_neg c39] at H
            exact absurd H (by simp)
          ·rw [if_neg c38] at H
           exact absurd H (by simp)
         ·rw [if_neg c37] at H
          exact absurd H (by simp)
     ·rw [if_neg c14] at H
      exact absurd H (by simp)
    ·rw [if_neg c13] at H
     exact absurd H (by simp)
   ·rw [if_neg c12] at H
    exact absurd H (by simp)
end Go.Proofs.Ythkclagcbjnckaa.Pa

namespace Go.Proofs.Ythkclagcbjnckaa.Pa
open Go.RowKit Go.Proofs.YthkclagcbjnckaaW.PrintWords Go.Proofs.YthkclagcbjnckaaW.PrintLast Go.Proofs.YthkclagcbjnckaaW.PrintMore
set_option linter.unusedVariables false
theorem lexC_anti : ∀ a b : List Int, lexC a b > 0 ↔ lexC b a < 0
  | [], [] => by simp [lexC]
  | [], _ :: _ => by simp [lexC]
  | _ :: _, [] => by simp [lexC]
  | a :: x, b :: y => by
    rw [lexC, lexC]
    by_cases h1 : a < b
    · rw [if_pos h1, if_neg (by omega), if_pos h1]; omega
    · by_cases h2 : b < a
      · rw [if_neg h1, if_pos h2, if_pos h2]; omega
      · rw [if_neg h1, if_neg h2, if_neg h2, if_neg h1]; exact lexC_anti x y
theorem lexC_zero : ∀ {a b : List Int}, lexC a b = 0 → a = b
  | [], [], _ => rfl
  | [], _ :: _, h => by simp [lexC] at h
  | _ :: _, [], h => by simp [lexC] at h
  | a :: x, b :: y, h => by
    rw [lexC] at h
    by_cases h1 : a < b
    · rw [if_pos h1] at h; omega
    · by_cases h2 : b < a
      · rw [if_neg h1, if_pos h2] at h; omega
      · rw [if_neg h1, if_neg h2] at h
        rw [show a = b by omega, lexC_zero h]
theorem lexC_tri {a b : List Int} (h : ¬ lexC a b > 0) (hne : a ≠ b) : lexC b a > 0 := by
  rw [lexC_anti]
  by_cases h0 : lexC a b = 0
  · exact absurd (lexC_zero h0) hne
  · omega
theorem lexC_ne {a b : List Int} (h : lexC a b > 0) : a ≠ b := by
  rintro rfl
  rw [lexC_self] at h; omega
theorem wrap64_in {n : Int} (h1 : -9223372036854775808 ≤ n) (h2 : n ≤ 9223372036854775807) : wrap64 n = n := by unfold wrap64; omega
theorem wrap_csub {c : Int} (h : 0 ≤ c ∧ c ≤ 1000000000000000) : wrap64 (1000000000000000 - c) = 1000000000000000 - c := by unfold wrap64; omega
theorem wrap_cadd {a c : Int} (h : 0 ≤ c ∧ c ≤ 1000000000000000) (h2 : 0 ≤ a ∧ a ≤ 1000000000000000) : wrap64 (a + c) = a + c := by unfold wrap64; omega
theorem lt42 {n : Nat} (h : n ≤ 1000000000) : n < 4398046511104 := by omega
def SortedM (l : List S60) : Prop := l.Pairwise fun x y => lexC x.f1 y.f1 > 0
def len8 (l : List S60) : Prop := ∀ x ∈ l, x.f1.length = 8
def intoL (m : S60) : List S60 → Option (List S60)
  | [] => some [m]
  | x :: r => if lexC x.f1 m.f1 > 0 then (intoL m r).map (x :: ·) else if x.f1 = m.f1 then (if x.f0 > 1000000000000000 - m.f0 then none else some (⟨x.f0 + m.f0, x.f1⟩ :: r)) else some (m :: x :: r)
def optR : Option (List S60) → List S60 × Bool
  | none => ([], false)
  | some l => (l, true)
theorem same_ev (a b : List Int) (ha : a.length = 8) (hb : b.length = 8) : Ev (fun k => tenetref24_same.f k a b) (decide (a = b)) := by
  refine Ev.congr (f := fun k => (tenetref24_less.f k a b).bind fun t => if t = true then some false else (tenetref24_less.f k b a).bind fun t2 => some (!t2)) (fun k => rfl) ?_
  refine Ev.bind (less_ev a b ha hb) ?_
  by_cases h : lexC a b > 0
  · simp only [decide_eq_true h, if_true]
    rw [decide_eq_false (lexC_ne h)]; exact Ev.now _
  · simp only [decide_eq_false h, Bool.false_eq_true, if_false]
    refine Ev.bind (less_ev b a hb ha) ?_
    by_cases e : a = b
    · subst e
      simp only [decide_eq_false h, Bool.not_false, decide_true]; exact Ev.now _
    · simp only [decide_eq_true (lexC_tri h e), Bool.not_true, decide_eq_false e]; exact Ev.now _
theorem drop_mid1 (pre r : List S60) (x : S60) : (pre ++ x :: r).drop ((pre.length : Int) + 1).toNat = r := by
  rw [show ((pre.length : Int) + 1).toNat = (pre ++ [x]).length by simp, show pre ++ x :: r = (pre ++ [x]) ++ r by simp]
  exact List.drop_left
section
variable (k : Nat) (l : List S60) (i m0 : Int) (m1 : List Int) (pre : List S60)
theorem into_l0_ge (h : ¬ i < (l.length : Int)) : tenetref24_into.l0 (k + 1) l i m0 m1 = tenetref24_into.j1 k l i m0 m1 := by
  rw [tenetref24_into.l0, if_neg h]
theorem into_l0_lt (h : i < (l.length : Int)) (h0 : 0 ≤ i) : tenetref24_into.l0 (k + 1) l i m0 m1 =
    (tenetref24_less.f k (rd_T60 l i).f1 m1).bind fun t => if t = true then tenetref24_into.l0 k l (wrap64 (i + 1)) m0 m1 else tenetref24_into.j1 k l i m0 m1 := by
  rw [tenetref24_into.l0, if_pos h, if_pos h0]
theorem into_j1_ge (h0 : 0 ≤ i) (h1 : i ≤ (l.length : Int)) (h : ¬ i < (l.length : Int)) (hp : l.take i.toNat = pre) (hs : ([] : List S60).length + pre.length < 4398046511104) :
    tenetref24_into.j1 (k + 1) l i m0 m1 = tenetref24_into.j2 k l i pre false m0 m1 := by
  rw [tenetref24_into.j1, if_pos h0, if_pos h1, Option.bind_some, hp, if_pos hs, Option.bind_some, if_neg h, List.nil_append]
theorem into_j1_lt (h0 : 0 ≤ i) (h1 : i ≤ (l.length : Int)) (h : i < (l.length : Int)) (hp : l.take i.toNat = pre) (hs : ([] : List S60).length + pre.length < 4398046511104) :
    tenetref24_into.j1 (k + 1) l i m0 m1 = (tenetref24_same.f k (rd_T60 l i).f1 m1).bind fun t => tenetref24_into.j2 k l i pre t m0 m1 := by
  rw [tenetref24_into.j1, if_pos h0, if_pos h1, Option.bind_some, hp, if_pos hs, Option.bind_some, if_pos h, List.nil_append]
theorem into_j2_no (r : List S60) (h0 : 0 ≤ i) (h1 : i ≤ (l.length : Int)) (hs : pre.length < 4398046511104) (hr : l.drop i.toNat = r) (hs2 : (pre ++ [(⟨m0, m1⟩ : S60)]).length + r.length < 4398046511104) :
    tenetref24_into.j2 (k + 1) l i pre false m0 m1 = some (pre ++ [⟨m0, m1⟩] ++ r, true) := by
  rw [tenetref24_into.j2, if_neg (by simp), if_pos hs, Option.bind_some, if_pos h0, if_pos h1, Option.bind_some, hr, if_pos hs2]
theorem into_j2_big (h0 : 0 ≤ i) (h1 : i < (l.length : Int)) (h : (rd_T60 l i).f0 > wrap64 (1000000000000000 - m0)) :
    tenetref24_into.j2 (k + 1) l i pre true m0 m1 = some ([], false) := by
  rw [tenetref24_into.j2, if_pos rfl, if_pos h0, if_pos h1, if_pos h]
theorem into_j2_yes (r : List S60) (h0 : 0 ≤ i) (h1 : i < (l.length : Int)) (h : ¬ (rd_T60 l i).f0 > wrap64 (1000000000000000 - m0)) (hs : pre.length < 4398046511104)
    (i4 : 0 ≤ wrap64 (i + 1)) (i5 : wrap64 (i + 1) ≤ (l.length : Int)) (hr : l.drop (wrap64 (i + 1)).toNat = r) (hs2 : (pre ++ [(⟨wrap64 ((rd_T60 l i).f0 + m0), (rd_T60 l i).f1⟩ : S60)]).length + r.length < 4398046511104) :
    tenetref24_into.j2 (k + 1) l i pre true m0 m1 = some (pre ++ [⟨wrap64 ((rd_T60 l i).f0 + m0), (rd_T60 l i).f1⟩] ++ r, true) := by
  rw [tenetref24_into.j2, if_pos rfl, if_pos h0, if_pos h1, if_neg h, if_pos hs, Option.bind_some, if_pos i4, if_pos i5, Option.bind_some, hr, if_pos hs2]
end
set_option maxHeartbeats 1000000 in
theorem into_ev (l : List S60) (m : S60) (hl : l.length ≤ 100000000) (h8 : len8 l) (hm : m.f1.length = 8) (hm0 : 0 ≤ m.f0 ∧ m.f0 ≤ 1000000000000000) (h0 : ∀ x ∈ l, 0 ≤ x.f0 ∧ x.f0 ≤ 1000000000000000) :
    Ev (fun k => tenetref24_into.f k l m.f0 m.f1) (optR (intoL m l)) := by
  have WS := Aside0.mk (wrap_csub hm0)
  have WA := Aside0.mk (fun x hx => wrap_cadd hm0 (h0 x hx))
  clear hm0 h0
  have loop : ∀ (r pre : List S60), l = pre ++ r → Ev (fun k => tenetref24_into.l0 k l (pre.length : Int) m.f0 m.f1) (optR ((intoL m r).map (pre ++ ·))) := by
    intro r
    induction r with
    | nil =>
      intro pre hp
      rw [List.append_nil] at hp
      have e1 : l.take ((pre.length : Int)).toNat = pre := by rw [hp]; simp
      have e2 : l.drop ((pre.length : Int)).toNat = [] := by rw [hp]; simp
      have hpl : pre.length = l.length := by rw [hp]
      have s1 : ([] : List S60).length + pre.length < 4398046511104 := lt42 (by simp; omega)
      have s2 : pre.length < 4398046511104 := lt42 (by omega)
      have s3 : (pre ++ [m]).length + ([] : List S60).length < 4398046511104 := lt42 (by simp; omega)
      have i1 : ¬ (pre.length : Int) < (l.length : Int) := by omega
      have i2 : (0 : Int) ≤ (pre.length : Int) := by omega
      have i3 : (pre.length : Int) ≤ (l.length : Int) := by omega
      refine Ev.step (fun k => into_l0_ge k l _ _ _ i1) ?_
      refine Ev.step (fun k => into_j1_ge k l _ _ _ pre i2 i3 i1 e1 s1) ?_
      refine Ev.step (f := fun _ => some (pre ++ [m] ++ [], true)) (fun k => into_j2_no k l _ m.f0 m.f1 pre [] i2 i3 s2 e2 s3) ?_
      rw [List.append_nil]
      exact Ev.now _
    | cons x r ih =>
      intro pre hp
      have hlt : pre.length < l.length := by rw [hp]; simp
      have ex : rd_T60 l (pre.length : Int) = x := by rw [hp]; exact rdM_mid _ _ _
      have hx8 : x.f1.length = 8 := h8 x (by rw [hp]; simp)
      have wa := Aside0.mk (WA.out x (by rw [hp]; simp))
      have hpl : pre.length + r.length + 1 = l.length := by rw [hp]; simp; omega
      have e1 : l.take ((pre.length : Int)).toNat = pre := by rw [hp]; simp
      have e2 : l.drop ((pre.length : Int)).toNat = x :: r := by rw [hp]; simp
      have e3 : l.drop (((pre.length + 1 : Nat)) : Int).toNat = r := by
        have := drop_mid1 pre r x
        rw [← hp] at this; push_cast; exact this
      have s1 : ([] : List S60).length + pre.length < 4398046511104 := lt42 (by simp; omega)
      have s2 : pre.length < 4398046511104 := lt42 (by omega)
      have s3 : (pre ++ [(⟨x.f0 + m.f0, x.f1⟩ : S60)]).length + r.length < 4398046511104 := lt42 (by simp; omega)
      have s4 : (pre ++ [m]).length + (x :: r).length < 4398046511104 := lt42 (by simp; omega)
      have ws := Aside0.mk (wrap_succ pre.length (by omega))
      have i1 : (pre.length : Int) < (l.length : Int) := by omega
      have i2 : (0 : Int) ≤ (pre.length : Int) := by omega
      have i3 : (pre.length : Int) ≤ (l.length : Int) := by omega
      have i4 : (0 : Int) ≤ ((pre.length + 1 : Nat) : Int) := by omega
      have i5 : ((pre.length + 1 : Nat) : Int) ≤ (l.length : Int) := by omega
      clear hl hpl hlt
      refine Ev.step (fun k => into_l0_lt k l _ _ _ i1 i2) ?_
      rw [ex]
      refine Ev.bind (less_ev x.f1 m.f1 hx8 hm) ?_
      by_cases hg : lexC x.f1 m.f1 > 0
      · simp only [decide_eq_true hg, if_true]
        rw [ws.out]
        have h := ih (pre ++ [x]) (by rw [hp]; simp)
        rw [List.length_append, List.length_singleton] at h
        have e : optR ((intoL m (x :: r)).map (pre ++ ·)) = optR ((intoL m r).map ((pre ++ [x]) ++ ·)) := by
          rw [intoL, if_pos hg, Option.map_map]
          congr 2
          funext y
          simp
        rw [e]
        exact h
      · simp only [decide_eq_false hg, Bool.false_eq_true, if_false]
        refine Ev.step (fun k => into_j1_lt k l _ _ _ pre i2 i3 i1 e1 s1) ?_
        rw [ex]
        refine Ev.bind (same_ev x.f1 m.f1 hx8 hm) ?_
        by_cases he : x.f1 = m.f1
        · rw [decide_eq_true he, intoL, if_neg hg, if_pos he]
          by_cases hb : x.f0 > 1000000000000000 - m.f0
          · rw [if_pos hb]
            exact Ev.step (f := fun _ => some ([], false)) (fun k => into_j2_big k l _ _ _ pre i2 i1 (by rw [ex, WS.out]; exact hb)) (Ev.now _)
          · rw [if_neg hb]
            refine Ev.step (f := fun _ => some (pre ++ [⟨x.f0 + m.f0, x.f1⟩] ++ r, true)) (fun k => ?_) ?_
            · have h := into_j2_yes k l (pre.length : Int) m.f0 m.f1 pre r i2 i1 (by rw [ex, WS.out]; exact hb) s2 (by rw [ws.out]; exact i4) (by rw [ws.out]; exact i5) (by rw [ws.out]; exact e3) (by rw [ex, wa.out]; exact s3)
              rw [ex, wa.out] at h
              exact h
            · rw [List.append_assoc]
              exact Ev.now _
        · rw [decide_eq_false he, intoL, if_neg hg, if_neg he]
          refine Ev.step (f := fun _ => some (pre ++ [m] ++ (x :: r), true)) (fun k => into_j2_no k l _ m.f0 m.f1 pre (x :: r) i2 i3 s2 e2 s4) ?_
          rw [List.append_assoc]
          exact Ev.now _
  refine Ev.congr (fun k => ?_) (by have h := loop l [] rfl; simpa using h)
  rfl
end Go.Proofs.Ythkclagcbjnckaa.Pa


namespace Go.Proofs.Ythkclagcbjnckaa.Pa
open Go.RowKit Go.Proofs.YthkclagcbjnckaaW.PrintWords Go.Proofs.YthkclagcbjnckaaW.PrintLast Go.Proofs.YthkclagcbjnckaaW.PrintMore
attribute [local go_sem] max2_int min2_int max_two min_two max_three min_three max_four min_four
set_option linter.unusedVariables false
set_option linter.unusedSimpArgs false
def tenetref24_add.l0 : Nat → List (S60) → List (S60) → Int → Option ((List (S60)) × Bool)
 | 0, _, _, _ => none
 | k + 1, x1, x6, x7 => if x7 < (x1.length : Int) then (if 0 ≤ x7 then ((tenetref24_into.f k x6 ((rd_T60 x1 x7).f0) ((rd_T60 x1 x7).f1)).bind fun bt356 => (if bt356.2 = true then (tenetref24_add.l0 k x1 bt356.1 (wrap64 (x7 + 1))) else (some (([] : List (S60)), false)))) else (none)) else (some (x6, decide ((x6.length : Int) ≤ 200)))
def tenetref24_add.f (k : Nat) (l0 : List (S60)) (l1 : List (S60)) : Option ((List (S60)) × Bool) := tenetref24_add.l0 k l1 l0 0
set_option maxHeartbeats 8000000 in
set_option maxRecDepth 100000 in
theorem tenetref24_add.calls (k : Nat) (P0_ : Nat → Prop) (A0 : Option Addr) (c0 : Nat) (l0 : List (S60)) (P1_ : Nat → Prop) (A1 : Option Addr) (c1 : Nat) (l1 : List (S60)) (r1 : List (S60)) (r2 : Bool) (w : World) (hs0 : Kd.V k60 60 w w.heap.size (fun k_ => P0_ k_) (.slice A0 l0.length c0) l0) (hs1 : Kd.V k60 60 w w.heap.size (fun k_ => P1_ k_) (.slice A1 l1.length c1) l1) (h : tenetref24_add.f k l0 l1 = some (r1, r2)) :
  Calls Try.prog 74 #[.slice A0 l0.length c0, .slice A1 l1.length c1] w fun e w' => ∃ v0_ : Value, e = .returned (.tuple #[v0_, .bool r2]) ∧ Kd.V k60 60 w' w.heap.size (fun k_ => ((P0_ k_ ∨ P1_ k_) ∨ w.heap.size ≤ k_)) v0_ r1 ∧ Below w.heap.size w w' := by
 have hu60 := Try.underlying60
 have HO0 := Aside0.mk (show Kd.V k60 60 w w.heap.size (fun k_ => ((P0_ k_ ∨ P1_ k_) ∨ w.heap.size ≤ k_)) (.slice A0 l0.length c0) l0 from Kd.V_mono hs0 (fun k_ hk => .inl (.inl hk)))
 have HO1 := Aside0.mk (show Kd.V k60 60 w w.heap.size (fun k_ => ((P0_ k_ ∨ P1_ k_) ∨ w.heap.size ≤ k_)) (.slice A1 l1.length c1) l1 from Kd.V_mono hs1 (fun k_ hk => .inl (.inr hk)))
 have HB := Aside0.mk (Below.refl w.heap.size w)
 have H : (tenetref24_add.l0 k l1 l0 0) = some (r1, r2) := h
 clear h
 have H' := Aside0.mk H
 clear H
 go_enter Try.func74, Try.ntmps74
 go_wp2
 go_loopg [6, 7] k (fun kq v6 v7 w' => ∃ (x6_1 : List (S60)) (x7_1 : Int), v7 = .int .i64 x7_1 ∧ Aside0 (tenetref24_add.l0 kq l1 x6_1 x7_1 = some (r1, r2)) ∧ Aside0 (kq ≤ k) ∧ Aside0 (Kd.V k60 60 w' w.heap.size (fun k_ => ((P0_ k_ ∨ P1_ k_) ∨ w.heap.size ≤ k_)) (.slice A1 l1.length c1) l1) ∧ Aside0 (Kd.V k60 60 w' w.heap.size (fun k_ => ((P0_ k_ ∨ P1_ k_) ∨ w.heap.size ≤ k_)) v6 x6_1) ∧ Aside0 (Below w.heap.size w w'))
 case atStart => exact ⟨(l0), (0), (by first | rfl | (simp; done) | (simp [*]; done)), H', ⟨Nat.le_refl _⟩, ⟨by (with_reducible repeat (first | apply Kd.V_alloc | apply Kd.V_drewN | apply Kd.V_drew)); exact HO1.out⟩, ⟨by (with_reducible repeat (first | apply Kd.V_alloc | apply Kd.V_drewN | apply Kd.V_drew)); exact HO0.out⟩, ⟨by repeat (first | (with_reducible first | exact HB.out | apply below_alloc | apply pw_below_drewN | apply below_drew1) | exact HB.out)⟩⟩
 case round =>
  clear H'
  try clear c1
  try clear p2
  obtain ⟨x6_1, x7_1, rfl, HA, HK1, HO_1, HO_6, HB⟩ := hrel
  cases gk with
  | zero => exact absurd HA.out (by simp [tenetref24_add.l0])
  | succ k1 =>
   have H := HA.out
   clear HA
   simp only [tenetref24_add.l0] at H
   by_cases c3 : x7_1 < (l1.length : Int)
   ·rw [if_pos c3] at H
    have c3b0 : decide (x7_1 < (l1.length : Int)) = true := decide_eq_true c3
    clear c3
    by_cases c4 : 0 ≤ x7_1
    ·rw [if_pos c4] at H
     have c4b0 : decide (0 ≤ x7_1) = true := decide_eq_true c4
     clear c4
     replace H := Option.bind_eq_some_iff.mp H
     obtain ⟨⟨t356, t359⟩, A50, H⟩ := H
     replace H : (if t359 = true then (tenetref24_add.l0 k1 l1 t356 (wrap64 (x7_1 + 1))) else (some (([] : List (S60)), false))) = some (r1, r2) := H
     have A5 := Aside0.mk A50
     clear A50
     by_cases c6 : t359 = true
     ·subst c6
      have H1 : (tenetref24_add.l0 k1 l1 t356 (wrap64 (x7_1 + 1))) = some (r1, r2) := by rw [if_pos rfl] at H; exact H
      clear H
      have H := H1
      clear H1
      have H' := Aside0.mk H
      clear H
      have p355 : 0 ≤ (x7_1 : Int) := of_decide_eq_true (by first | (with_reducible assumption) | assumption)
      have q355 : x7_1 < (l1.length : Int) := of_decide_eq_true (by first | (with_reducible assumption) | assumption)
      obtain ⟨ad355, A355_1, c355_1, e355, hx355_0, hx355_1, hl355_1, hi355_1⟩ := at_T60 (Kd.V_reads' HO_1.out).2.2 x7_1 p355 q355
      cases e355
      obtain ⟨ce355, hce355, hMe355, hcc355⟩ := Kd.V_get HO_1.out z60 x7_1 p355 (by first | exact q355 | exact of_decide_eq_true (by first | (with_reducible assumption) | assumption) | (have e_ := (Kd.V_reads' HO_1.out).1; omega))
      obtain ⟨ua355_1, uc355_1, rfl, ul355_1, ge355_1⟩ := k60_openF hMe355
      have hv355_1 := hcc355 1 _ rfl
      rw [add_field _ _ 1 (by omega)] at hv355_1
      replace hv355_1 := Option.some.inj (hv355_1.symm.trans hx355_1)
      injection hv355_1 with hva_ hvn_ hvc_
      rw [hva_] at ge355_1
      rw [hvc_] at ul355_1
      have HL355_1 := Aside0.mk (show Kd.V (Kd.int .i64) 3 _ w.heap.size _ _ ((rd_T60 l1 x7_1).f1) from Kd.V_mk ul355_1 ge355_1)
      clear hva_ hvn_ hvc_ ge355_1 ul355_1
      clear hcc355 hce355
      have HR355_1 := Aside0.mk hi355_1
      have HC355_1 := Aside0.mk hl355_1
      clear hi355_1 hl355_1
      replace p355 := eq_true p355
      replace q355 := eq_true q355
      obtain ⟨Ao7, co7, eo7⟩ := Kd.V_slice HO_6.out
      subst eo7
      go_wp2_with (first | ((with_reducible refine gate_callee (f := 95) rfl ?_); refine goesL_ (some 23) rfl rfl Try.func95 (by kernel_rfl) rfl #[.slice Ao7 x6_1.length co7, .agg #[.int .i64 ((rd_T60 l1 x7_1).f0), .slice A355_1 ((rd_T60 l1 x7_1).f1).length c355_1]] rfl (by (try simp only [List.map_toArray, List.map_cons, List.map_nil]); first | done | rfl | (simp only [List.length_drop, List.length_take]; rfl)) ?_; (with_reducible refine (tenetref24_into.calls k1 (fun k_ => ((P0_ k_ ∨ P1_ k_) ∨ w.heap.size ≤ k_)) _ _ x6_1 ((rd_T60 l1 x7_1).f0) (fun k_ => ((P0_ k_ ∨ P1_ k_) ∨ w.heap.size ≤ k_)) _ _ ((rd_T60 l1 x7_1).f1) t356 true _ ?side1 ?side2 A5.out).mono ?_); (case side1 => exact HO_6.out); (case side2 => exact HL355_1.out); rintro e w8 ⟨v357, rfl, ho0, hb⟩; refine ⟨_, rfl, ?_⟩; have n0_ := Aside0.mk (Kd.V_elder' (by (with_reducible repeat (first | apply Kd.V_alloc | apply Kd.V_drewN | apply Kd.V_drew)); exact HO_1.out) (by first | exact Kd.N_base ho0 | exact Kd.R_base ho0) hb); have n1_ := Aside0.mk (Kd.V_elder' (by (with_reducible repeat (first | apply Kd.V_alloc | apply Kd.V_drewN | apply Kd.V_drew)); exact HO_6.out) (by first | exact Kd.N_base ho0 | exact Kd.R_base ho0) hb); have n2_ := Aside0.mk (Kd.V_elder' (by (with_reducible repeat (first | apply Kd.V_alloc | apply Kd.V_drewN | apply Kd.V_drew)); exact HL355_1.out) (by first | exact Kd.N_base ho0 | exact Kd.R_base ho0) hb); have n3_ := Aside0.mk (Kd.N_lower (Kd.N_mono (ok' := fun k_ => ((P0_ k_ ∨ P1_ k_) ∨ w.heap.size ≤ k_)) ho0 (fun k_ hk_ => Or.elim hk_ (fun hs_ => Or.elim hs_ (fun hs_ => hs_) (fun hs_ => hs_)) (fun hn_ => (.inr (Nat.le_trans (below_size (by repeat (first | (with_reducible first | exact HB.out | apply below_alloc | apply pw_below_drewN | apply below_drew1) | exact HB.out))) hn_))))) (below_size (by repeat (first | (with_reducible first | exact HB.out | apply below_alloc | apply pw_below_drewN | apply below_drew1) | exact HB.out)))); have n4_ := Aside0.mk (Kd.C_below (by repeat (first | (with_reducible exact HR355_1.out) | (with_reducible refine Kd.C_alloc ?_ _) | (with_reducible refine Kd.C_drewN ?_ _) | (with_reducible refine Kd.C_drew ?_) | exact HR355_1.out)) hb); have n5_ := Aside0.mk (below_step (by repeat (first | (with_reducible first | exact HB.out | apply below_alloc | apply pw_below_drewN | apply below_drew1) | exact HB.out)) hb); clear HO_1; clear HO_6; clear HL355_1; clear HR355_1; clear HB; have HO_1 := n0_; have HO_6 := n1_; have HL355_1 := n2_; have HO358 := n3_; have HR355_1 := n4_; have HB := n5_; clear n0_ n1_ n2_ n3_ n4_ n5_; (try clear hb); (try clear hb2); (try clear hk); (try clear hi); (try clear ho0)))
      go_roundg k1
      case measure => have := HK1.out; omega
      case rel => exact ⟨(t356), (wrap64 (x7_1 + 1)), (by first | rfl | (simp; done) | (simp [*]; done)), H', ⟨by have := HK1.out; omega⟩, ⟨by (with_reducible repeat (first | apply Kd.V_alloc | apply Kd.V_drewN | apply Kd.V_drew)); exact Kd.V_mono HO_1.out (fun _ hk => hk.1)⟩, ⟨Kd.N_V (by (with_reducible repeat (first | apply Kd.N_alloc | apply Kd.N_drewN | apply Kd.N_drew)); exact HO358.out)⟩, ⟨by repeat (first | (with_reducible first | exact HB.out | apply below_alloc | apply pw_below_drewN | apply below_drew1) | exact HB.out)⟩⟩
     ·replace c6 := Bool.eq_false_iff.mpr c6
      subst c6
      have H1 : (some (([] : List (S60)), false)) = some (r1, r2) := by rw [if_neg (show ¬ (false = true) by decide)] at H; exact H
      clear H
      have H := H1
      clear H1
      simp only [Option.some.injEq, Prod.mk.injEq] at H
      obtain ⟨rfl, rfl⟩ := H
      have p355 : 0 ≤ (x7_1 : Int) := of_decide_eq_true (by first | (with_reducible assumption) | assumption)
      have q355 : x7_1 < (l1.length : Int) := of_decide_eq_true (by first | (with_reducible assumption) | assumption)
      obtain ⟨ad355, A355_1, c355_1, e355, hx355_0, hx355_1, hl355_1, hi355_1⟩ := at_T60 (Kd.V_reads' HO_1.out).2.2 x7_1 p355 q355
      cases e355
      obtain ⟨ce355, hce355, hMe355, hcc355⟩ := Kd.V_get HO_1.out z60 x7_1 p355 (by first | exact q355 | exact of_decide_eq_true (by first | (with_reducible assumption) | assumption) | (have e_ := (Kd.V_reads' HO_1.out).1; omega))
      obtain ⟨ua355_1, uc355_1, rfl, ul355_1, ge355_1⟩ := k60_openF hMe355
      have hv355_1 := hcc355 1 _ rfl
      rw [add_field _ _ 1 (by omega)] at hv355_1
      replace hv355_1 := Option.some.inj (hv355_1.symm.trans hx355_1)
      injection hv355_1 with hva_ hvn_ hvc_
      rw [hva_] at ge355_1
      rw [hvc_] at ul355_1
      have HL355_1 := Aside0.mk (show Kd.V (Kd.int .i64) 3 _ w.heap.size _ _ ((rd_T60 l1 x7_1).f1) from Kd.V_mk ul355_1 ge355_1)
      clear hva_ hvn_ hvc_ ge355_1 ul355_1
      clear hcc355 hce355
      have HR355_1 := Aside0.mk hi355_1
      have HC355_1 := Aside0.mk hl355_1
      clear hi355_1 hl355_1
      replace p355 := eq_true p355
      replace q355 := eq_true q355
      obtain ⟨Ao9, co9, eo9⟩ := Kd.V_slice HO_6.out
      subst eo9
      go_wp2_with (first | ((with_reducible refine gate_callee (f := 95) rfl ?_); refine goesL_ (some 23) rfl rfl Try.func95 (by kernel_rfl) rfl #[.slice Ao9 x6_1.length co9, .agg #[.int .i64 ((rd_T60 l1 x7_1).f0), .slice A355_1 ((rd_T60 l1 x7_1).f1).length c355_1]] rfl (by (try simp only [List.map_toArray, List.map_cons, List.map_nil]); first | done | rfl | (simp only [List.length_drop, List.length_take]; rfl)) ?_; (with_reducible refine (tenetref24_into.calls k1 (fun k_ => ((P0_ k_ ∨ P1_ k_) ∨ w.heap.size ≤ k_)) _ _ x6_1 ((rd_T60 l1 x7_1).f0) (fun k_ => ((P0_ k_ ∨ P1_ k_) ∨ w.heap.size ≤ k_)) _ _ ((rd_T60 l1 x7_1).f1) t356 false _ ?side1 ?side2 A5.out).mono ?_); (case side1 => exact HO_6.out); (case side2 => exact HL355_1.out); rintro e w10 ⟨v357, rfl, ho0, hb⟩; refine ⟨_, rfl, ?_⟩; have n0_ := Aside0.mk (Kd.V_elder' (by (with_reducible repeat (first | apply Kd.V_alloc | apply Kd.V_drewN | apply Kd.V_drew)); exact HO_1.out) (by first | exact Kd.N_base ho0 | exact Kd.R_base ho0) hb); have n1_ := Aside0.mk (Kd.V_elder' (by (with_reducible repeat (first | apply Kd.V_alloc | apply Kd.V_drewN | apply Kd.V_drew)); exact HO_6.out) (by first | exact Kd.N_base ho0 | exact Kd.R_base ho0) hb); have n2_ := Aside0.mk (Kd.V_elder' (by (with_reducible repeat (first | apply Kd.V_alloc | apply Kd.V_drewN | apply Kd.V_drew)); exact HL355_1.out) (by first | exact Kd.N_base ho0 | exact Kd.R_base ho0) hb); have n3_ := Aside0.mk (Kd.N_lower (Kd.N_mono (ok' := fun k_ => ((P0_ k_ ∨ P1_ k_) ∨ w.heap.size ≤ k_)) ho0 (fun k_ hk_ => Or.elim hk_ (fun hs_ => Or.elim hs_ (fun hs_ => hs_) (fun hs_ => hs_)) (fun hn_ => (.inr (Nat.le_trans (below_size (by repeat (first | (with_reducible first | exact HB.out | apply below_alloc | apply pw_below_drewN | apply below_drew1) | exact HB.out))) hn_))))) (below_size (by repeat (first | (with_reducible first | exact HB.out | apply below_alloc | apply pw_below_drewN | apply below_drew1) | exact HB.out)))); have n4_ := Aside0.mk (Kd.C_below (by repeat (first | (with_reducible exact HR355_1.out) | (with_reducible refine Kd.C_alloc ?_ _) | (with_reducible refine Kd.C_drewN ?_ _) | (with_reducible refine Kd.C_drew ?_) | exact HR355_1.out)) hb); have n5_ := Aside0.mk (below_step (by repeat (first | (with_reducible first | exact HB.out | apply below_alloc | apply pw_below_drewN | apply below_drew1) | exact HB.out)) hb); clear HO_1; clear HO_6; clear HL355_1; clear HR355_1; clear HB; have HO_1 := n0_; have HO_6 := n1_; have HL355_1 := n2_; have HO358 := n3_; have HR355_1 := n4_; have HB := n5_; clear n0_ n1_ n2_ n3_ n4_ n5_; (try clear hb); (try clear hb2); (try clear hk); (try clear hi); (try clear ho0)))
      go_ret2
      exact ⟨_, by first | rfl | (simp [errW_none, errW_some] <;> rfl) | (simp [*, errW_none, errW_some] <;> rfl), Kd.V_nil _ _ _ _ _, by repeat (first | (with_reducible first | exact HB.out | apply below_alloc | apply pw_below_drewN | apply below_drew1) | exact HB.out)⟩
    ·rw [if_neg c4] at H
     exact absurd H (by simp)
   ·rw [if_neg c3] at H
    have c3b0 : decide (x7_1 < (l1.length : Int)) = false := decide_eq_false c3
    clear c3
    simp only [Option.some.injEq, Prod.mk.injEq] at H
    obtain ⟨rfl, rfl⟩ := H
    obtain ⟨Ao11, co11, eo11⟩ := Kd.V_slice HO_6.out
    subst eo11
    go_wp2
    go_ret2
    exact ⟨_, by first | rfl | (simp [errW_none, errW_some] <;> rfl) | (simp [*, errW_none, errW_some] <;> rfl), by (with_reducible repeat (first | apply Kd.V_alloc | apply Kd.V_drewN | apply Kd.V_drew)); exact HO_6.out, by repeat (first | (with_reducible first | exact HB.out | apply below_alloc | apply pw_below_drewN | apply below_drew1) | exact HB.out)⟩
end Go.Proofs.Ythkclagcbjnckaa.Pa

