import Derived.Laws.Cover3
import Derived.Test.YthkclagcbjnckaaJ1
set_option linter.unusedVariables false
set_option linter.unusedSimpArgs false

namespace Go.Proofs.Ythkclagcbjnckaa.Pa
open Go.RowKit Go.Proofs.YthkclagcbjnckaaW.PrintWords Go.Proofs.YthkclagcbjnckaaW.PrintLast Go.Proofs.YthkclagcbjnckaaW.PrintMore
attribute [local go_sem] max2_int min2_int max_two min_two max_three min_three max_four min_four
set_option linter.unusedVariables false
set_option linter.unusedSimpArgs false
def cmp_Compare_int.f (a0 : Int) (a1 : Int) : Option (Int) := (cmp_isNaN_int.f a0).bind fun t214 => ((cmp_isNaN_int.f a1).bind fun t215 => (if t214 = true then (if t215 = true then (some 0) else (some (-1))) else (if t215 = true then (some 1) else (if a0 < a1 then (some (-1)) else (if a0 > a1 then (some 1) else (some 0))))))
set_option maxHeartbeats 8000000 in
set_option maxRecDepth 100000 in
theorem cmp_Compare_int.calls (a0 : Int) (a1 : Int) (r : Int) (w : World) (h : cmp_Compare_int.f a0 a1 = some r) :
  Calls Try.prog 99 #[.int .i64 a0, .int .i64 a1] w fun e w' => e = .returned (.int .i64 r) ∧ Drawn0 w w' := by
 have H : ((cmp_isNaN_int.f a0).bind fun t214 => ((cmp_isNaN_int.f a1).bind fun t215 => (if t214 = true then (if t215 = true then (some 0) else (some (-1))) else (if t215 = true then (some 1) else (if a0 < a1 then (some (-1)) else (if a0 > a1 then (some 1) else (some 0))))))) = some r := h
 clear h
 replace H := Option.bind_eq_some_iff.mp H
 obtain ⟨t214, A30, H⟩ := H
 replace H : ((cmp_isNaN_int.f a1).bind fun t215 => (if t214 = true then (if t215 = true then (some 0) else (some (-1))) else (if t215 = true then (some 1) else (if a0 < a1 then (some (-1)) else (if a0 > a1 then (some 1) else (some 0)))))) = some r := H
 have A3 := Aside0.mk A30
 clear A30
 replace H := Option.bind_eq_some_iff.mp H
 obtain ⟨t215, A40, H⟩ := H
 replace H : (if t214 = true then (if t215 = true then (some 0) else (some (-1))) else (if t215 = true then (some 1) else (if a0 < a1 then (some (-1)) else (if a0 > a1 then (some 1) else (some 0))))) = some r := H
 have A4 := Aside0.mk A40
 clear A40
 by_cases c5 : t214 = true
 ·subst c5
  have H1 : (if t215 = true then (some 0) else (some (-1))) = some r := by rw [if_pos rfl] at H; exact H
  clear H
  have H := H1
  clear H1
  by_cases c6 : t215 = true
  ·subst c6
   have H1 : (some 0) = some r := by rw [if_pos rfl] at H; exact H
   clear H
   have H := H1
   clear H1
   obtain rfl := Option.some.inj H
   go_enter Try.func99, Try.ntmps99
   go_wp2_with (first | ((with_reducible refine gate_callee (f := 118) rfl ?_); refine goesL_ (some 8) rfl rfl Try.func118 (by kernel_rfl) rfl #[.int .i64 a0] rfl (by (try simp only [List.map_toArray, List.map_cons, List.map_nil]); first | done | rfl | (simp only [List.length_drop, List.length_take]; rfl)) ?_; (with_reducible refine (cmp_isNaN_int.calls a0 true _ A3.out).mono ?_); rintro e w' ⟨rfl, ⟨nd, rfl⟩⟩; refine ⟨_, rfl, ?_⟩) | ((with_reducible refine gate_callee (f := 118) rfl ?_); refine goesL_ (some 10) rfl rfl Try.func118 (by kernel_rfl) rfl #[.int .i64 a1] rfl (by (try simp only [List.map_toArray, List.map_cons, List.map_nil]); first | done | rfl | (simp only [List.length_drop, List.length_take]; rfl)) ?_; (with_reducible refine (cmp_isNaN_int.calls a1 true _ A4.out).mono ?_); rintro e w' ⟨rfl, ⟨nd, rfl⟩⟩; refine ⟨_, rfl, ?_⟩))
   go_ret
   exact ⟨by first | rfl | (simp; done) | (simp [*]; done), by repeat (first | exact Drawn0.refl _ | apply Drawn0.step)⟩
  ·replace c6 := Bool.eq_false_iff.mpr c6
   subst c6
   have H1 : (some (-1)) = some r := by rw [if_neg (show ¬ (false = true) by decide)] at H; exact H
   clear H
   have H := H1
   clear H1
   obtain rfl := Option.some.inj H
   go_enter Try.func99, Try.ntmps99
   go_wp2_with (first | ((with_reducible refine gate_callee (f := 118) rfl ?_); refine goesL_ (some 8) rfl rfl Try.func118 (by kernel_rfl) rfl #[.int .i64 a0] rfl (by (try simp only [List.map_toArray, List.map_cons, List.map_nil]); first | done | rfl | (simp only [List.length_drop, List.length_take]; rfl)) ?_; (with_reducible refine (cmp_isNaN_int.calls a0 true _ A3.out).mono ?_); rintro e w' ⟨rfl, ⟨nd, rfl⟩⟩; refine ⟨_, rfl, ?_⟩) | ((with_reducible refine gate_callee (f := 118) rfl ?_); refine goesL_ (some 10) rfl rfl Try.func118 (by kernel_rfl) rfl #[.int .i64 a1] rfl (by (try simp only [List.map_toArray, List.map_cons, List.map_nil]); first | done | rfl | (simp only [List.length_drop, List.length_take]; rfl)) ?_; (with_reducible refine (cmp_isNaN_int.calls a1 false _ A4.out).mono ?_); rintro e w' ⟨rfl, ⟨nd, rfl⟩⟩; refine ⟨_, rfl, ?_⟩))
   go_ret
   exact ⟨by first | rfl | (simp; done) | (simp [*]; done), by repeat (first | exact Drawn0.refl _ | apply Drawn0.step)⟩
 ·replace c5 := Bool.eq_false_iff.mpr c5
  subst c5
  have H1 : (if t215 = true then (some 1) else (if a0 < a1 then (some (-1)) else (if a0 > a1 then (some 1) else (some 0)))) = some r := by rw [if_neg (show ¬ (false = true) by decide)] at H; exact H
  clear H
  have H := H1
  clear H1
  by_cases c7 : t215 = true
  ·subst c7
   have H1 : (some 1) = some r := by rw [if_pos rfl] at H; exact H
   clear H
   have H := H1
   clear H1
   obtain rfl := Option.some.inj H
   go_enter Try.func99, Try.ntmps99
   go_wp2_with (first | ((with_reducible refine gate_callee (f := 118) rfl ?_); refine goesL_ (some 8) rfl rfl Try.func118 (by kernel_rfl) rfl #[.int .i64 a0] rfl (by (try simp only [List.map_toArray, List.map_cons, List.map_nil]); first | done | rfl | (simp only [List.length_drop, List.length_take]; rfl)) ?_; (with_reducible refine (cmp_isNaN_int.calls a0 false _ A3.out).mono ?_); rintro e w' ⟨rfl, ⟨nd, rfl⟩⟩; refine ⟨_, rfl, ?_⟩) | ((with_reducible refine gate_callee (f := 118) rfl ?_); refine goesL_ (some 10) rfl rfl Try.func118 (by kernel_rfl) rfl #[.int .i64 a1] rfl (by (try simp only [List.map_toArray, List.map_cons, List.map_nil]); first | done | rfl | (simp only [List.length_drop, List.length_take]; rfl)) ?_; (with_reducible refine (cmp_isNaN_int.calls a1 true _ A4.out).mono ?_); rintro e w' ⟨rfl, ⟨nd, rfl⟩⟩; refine ⟨_, rfl, ?_⟩))
   go_ret
   exact ⟨by first | rfl | (simp; done) | (simp [*]; done), by repeat (first | exact Drawn0.refl _ | apply Drawn0.step)⟩
  ·replace c7 := Bool.eq_false_iff.mpr c7
   subst c7
   have H1 : (if a0 < a1 then (some (-1)) else (if a0 > a1 then (some 1) else (some 0))) = some r := by rw [if_neg (show ¬ (false = true) by decide)] at H; exact H
   clear H
   have H := H1
   clear H1
   by_cases c8 : a0 < a1
   ·rw [if_pos c8] at H
    have c8b0 : decide (a0 < a1) = true := decide_eq_true c8
    clear c8
    obtain rfl := Option.some.inj H
    go_enter Try.func99, Try.ntmps99
    go_wp2_with (first | ((with_reducible refine gate_callee (f := 118) rfl ?_); refine goesL_ (some 8) rfl rfl Try.func118 (by kernel_rfl) rfl #[.int .i64 a0] rfl (by (try simp only [List.map_toArray, List.map_cons, List.map_nil]); first | done | rfl | (simp only [List.length_drop, List.length_take]; rfl)) ?_; (with_reducible refine (cmp_isNaN_int.calls a0 false _ A3.out).mono ?_); rintro e w' ⟨rfl, ⟨nd, rfl⟩⟩; refine ⟨_, rfl, ?_⟩) | ((with_reducible refine gate_callee (f := 118) rfl ?_); refine goesL_ (some 10) rfl rfl Try.func118 (by kernel_rfl) rfl #[.int .i64 a1] rfl (by (try simp only [List.map_toArray, List.map_cons, List.map_nil]); first | done | rfl | (simp only [List.length_drop, List.length_take]; rfl)) ?_; (with_reducible refine (cmp_isNaN_int.calls a1 false _ A4.out).mono ?_); rintro e w' ⟨rfl, ⟨nd, rfl⟩⟩; refine ⟨_, rfl, ?_⟩))
    go_ret
    exact ⟨by first | rfl | (simp; done) | (simp [*]; done), by repeat (first | exact Drawn0.refl _ | apply Drawn0.step)⟩
   ·rw [if_neg c8] at H
    have c8b0 : decide (a0 < a1) = false := decide_eq_false c8
    clear c8
    by_cases c9 : a0 > a1
    ·rw [if_pos c9] at H
     have c9b0 : decide (a1 < a0) = true := decide_eq_true c9
     clear c9
     obtain rfl := Option.some.inj H
     go_enter Try.func99, Try.ntmps99
     go_wp2_with (first | ((with_reducible refine gate_callee (f := 118) rfl ?_); refine goesL_ (some 8) rfl rfl Try.func118 (by kernel_rfl) rfl #[.int .i64 a0] rfl (by (try simp only [List.map_toArray, List.map_cons, List.map_nil]); first | done | rfl | (simp only [List.length_drop, List.length_take]; rfl)) ?_; (with_reducible refine (cmp_isNaN_int.calls a0 false _ A3.out).mono ?_); rintro e w' ⟨rfl, ⟨nd, rfl⟩⟩; refine ⟨_, rfl, ?_⟩) | ((with_reducible refine gate_callee (f := 118) rfl ?_); refine goesL_ (some 10) rfl rfl Try.func118 (by kernel_rfl) rfl #[.int .i64 a1] rfl (by (try simp only [List.map_toArray, List.map_cons, List.map_nil]); first | done | rfl | (simp only [List.length_drop, List.length_take]; rfl)) ?_; (with_reducible refine (cmp_isNaN_int.calls a1 false _ A4.out).mono ?_); rintro e w' ⟨rfl, ⟨nd, rfl⟩⟩; refine ⟨_, rfl, ?_⟩))
     go_ret
     exact ⟨by first | rfl | (simp; done) | (simp [*]; done), by repeat (first | exact Drawn0.refl _ | apply Drawn0.step)⟩
    ·rw [if_neg c9] at H
     have c9b0 : decide (a1 < a0) = false := decide_eq_false c9
     clear c9
     obtain rfl := Option.some.inj H
     go_enter Try.func99, Try.ntmps99
     go_wp2_with (first | ((with_reducible refine gate_callee (f := 118) rfl ?_); refine goesL_ (some 8) rfl rfl Try.func118 (by kernel_rfl) rfl #[.int .i64 a0] rfl (by (try simp only [List.map_toArray, List.map_cons, List.map_nil]); first | done | rfl | (simp only [List.length_drop, List.length_take]; rfl)) ?_; (with_reducible refine (cmp_isNaN_int.calls a0 false _ A3.out).mono ?_); rintro e w' ⟨rfl, ⟨nd, rfl⟩⟩; refine ⟨_, rfl, ?_⟩) | ((with_reducible refine gate_callee (f := 118) rfl ?_); refine goesL_ (some 10) rfl rfl Try.func118 (by kernel_rfl) rfl #[.int .i64 a1] rfl (by (try simp only [List.map_toArray, List.map_cons, List.map_nil]); first | done | rfl | (simp only [List.length_drop, List.length_take]; rfl)) ?_; (with_reducible refine (cmp_isNaN_int.calls a1 false _ A4.out).mono ?_); rintro e w' ⟨rfl, ⟨nd, rfl⟩⟩; refine ⟨_, rfl, ?_⟩))
     go_ret
     exact ⟨by first | rfl | (simp; done) | (simp [*]; done), by repeat (first | exact Drawn0.refl _ | apply Drawn0.step)⟩
end Go.Proofs.Ythkclagcbjnckaa.Pa


namespace Go.Proofs.Ythkclagcbjnckaa.Pa
open Go.RowKit Go.Proofs.YthkclagcbjnckaaW.PrintWords Go.Proofs.YthkclagcbjnckaaW.PrintLast Go.Proofs.YthkclagcbjnckaaW.PrintMore
attribute [local go_sem] max2_int min2_int max_two min_two max_three min_three max_four min_four
set_option linter.unusedVariables false
set_option linter.unusedSimpArgs false
def slices_Compare_int_int.l0 : Nat → List Int → List Int → List Int → Int → Int → Option (Int)
 | 0, _, _, _, _, _ => none
 | k + 1, x0, x1, x9, x10, x11 => if x11 < x10 then (if 0 ≤ x11 then (if x11 < (x9.length : Int) then (if x11 ≥ (x1.length : Int) then (some 1) else (if x11 < (x1.length : Int) then ((cmp_Compare_int.f (rd x9 x11) (rd x1 x11)).bind fun t218 => (if t218 = 0 then (slices_Compare_int_int.l0 k x0 x1 x9 x10 (wrap64 (x11 + 1))) else (some t218))) else (none))) else (none)) else (none)) else (if (x0.length : Int) < (x1.length : Int) then (some (-1)) else (some 0))
def slices_Compare_int_int.f (k : Nat) (l0 : List Int) (l1 : List Int) : Option (Int) := slices_Compare_int_int.l0 k l0 l1 l0 (l0.length : Int) 0
set_option maxHeartbeats 8000000 in
set_option maxRecDepth 100000 in
theorem slices_Compare_int_int.calls (k : Nat) (A0 : Option Addr) (c0 : Nat) (l0 : List Int) (A1 : Option Addr) (c1 : Nat) (l1 : List Int) (r : Int) (w : World) (hr0 : Kd.C (Kd.int .i64) w A0 l0.length l0) (hc0 : l0.length ≤ c0) (hr1 : Kd.C (Kd.int .i64) w A1 l1.length l1) (hc1 : l1.length ≤ c1) (h : slices_Compare_int_int.f k l0 l1 = some r) :
  Calls Try.prog 80 #[.slice A0 l0.length c0, .slice A1 l1.length c1] w fun e w' => e = .returned (.int .i64 r) ∧ Drawn0 w w' := by
 have HR0 := Aside0.mk hr0
 have HC0 := Aside0.mk hc0
 clear hr0 hc0
 have HR1 := Aside0.mk hr1
 have HC1 := Aside0.mk hc1
 clear hr1 hc1
 have H : (slices_Compare_int_int.l0 k l0 l1 l0 (l0.length : Int) 0) = some r := h
 clear h
 have H' := Aside0.mk H
 clear H
 go_enter Try.func80, Try.ntmps80
 go_wp2
 go_loopg [11] k (fun kq v11 w' => ∃ (x11_1 : Int), v11 = .int .i64 x11_1 ∧ Aside0 (slices_Compare_int_int.l0 kq l0 l1 l0 (l0.length : Int) x11_1 = some r) ∧ Aside0 (kq ≤ k) ∧ Drawn0 w w')
 case atStart => exact ⟨(0), (by first | rfl | (simp; done) | (simp [*]; done)), H', ⟨Nat.le_refl _⟩, by repeat (first | exact Drawn0.refl _ | apply Drawn0.step)⟩
 case round =>
  clear H'
  try clear c1
  try clear p2
  obtain ⟨x11_1, rfl, HA, HK1, ⟨m1, rfl⟩⟩ := hrel
  cases gk with
  | zero => exact absurd HA.out (by simp [slices_Compare_int_int.l0])
  | succ k1 =>
   have H := HA.out
   clear HA
   simp only [slices_Compare_int_int.l0] at H
   by_cases c3 : x11_1 < (l0.length : Int)
   ·rw [if_pos c3] at H
    have c3b0 : decide (x11_1 < (l0.length : Int)) = true := decide_eq_true c3
    clear c3
    by_cases c4 : 0 ≤ x11_1
    ·rw [if_pos c4] at H
     have c4b0 : decide (0 ≤ x11_1) = true := decide_eq_true c4
     clear c4
     by_cases c5 : x11_1 < (l0.length : Int)
     ·rw [if_pos c5] at H
      have c5b0 : decide (x11_1 < (l0.length : Int)) = true := decide_eq_true c5
      clear c5
      by_cases c6 : x11_1 ≥ (l1.length : Int)
      ·rw [if_pos c6] at H
       have c6b0 : decide ((l1.length : Int) ≤ x11_1) = true := decide_eq_true c6
       clear c6
       obtain rfl := Option.some.inj H
       have p216 : 0 ≤ (x11_1 : Int) := of_decide_eq_true (by first | (with_reducible assumption) | assumption)
       have q216 : x11_1 < (l0.length : Int) := of_decide_eq_true (by first | (with_reducible assumption) | assumption)
       obtain ⟨ad216, e216, hx216_0⟩ := Kd.at_int HR0.out x11_1 p216 q216
       cases e216
       replace p216 := eq_true p216
       replace q216 := eq_true q216
       go_wp2
       go_ret
       exact ⟨by first | rfl | (simp; done) | (simp [*]; done), by repeat (first | exact Drawn0.refl _ | apply Drawn0.step)⟩
      ·rw [if_neg c6] at H
       have c6b0 : decide ((l1.length : Int) ≤ x11_1) = false := decide_eq_false c6
       clear c6
       by_cases c7 : x11_1 < (l1.length : Int)
       ·rw [if_pos c7] at H
        have c7b0 : decide (x11_1 < (l1.length : Int)) = true := decide_eq_true c7
        clear c7
        replace H := Option.bind_eq_some_iff.mp H
        obtain ⟨t218, A80, H⟩ := H
        replace H : (if t218 = 0 then (slices_Compare_int_int.l0 k1 l0 l1 l0 (l0.length : Int) (wrap64 (x11_1 + 1))) else (some t218)) = some r := H
        have A8 := Aside0.mk A80
        clear A80
        by_cases c9 : t218 = 0
        ·rw [if_pos c9] at H
         have c9b0 : (t218 == 0) = true := beq_iff_eq.mpr c9
         have c9b1 : (t218 != 0) = false := bne_eq_false_iff_eq.mpr c9
         clear c9
         have H' := Aside0.mk H
         clear H
         have p216 : 0 ≤ (x11_1 : Int) := of_decide_eq_true (by first | (with_reducible assumption) | assumption)
         have q216 : x11_1 < (l0.length : Int) := of_decide_eq_true (by first | (with_reducible assumption) | assumption)
         obtain ⟨ad216, e216, hx216_0⟩ := Kd.at_int HR0.out x11_1 p216 q216
         cases e216
         replace p216 := eq_true p216
         replace q216 := eq_true q216
         have p217 : 0 ≤ (x11_1 : Int) := of_decide_eq_true (by first | (with_reducible assumption) | assumption)
         have q217 : x11_1 < (l1.length : Int) := of_decide_eq_true (by first | (with_reducible assumption) | assumption)
         obtain ⟨ad217, e217, hx217_0⟩ := Kd.at_int HR1.out x11_1 p217 q217
         cases e217
         replace p217 := eq_true p217
         replace q217 := eq_true q217
         go_wp2_with (first | ((with_reducible refine gate_callee (f := 99) rfl ?_); refine goesL_ (some 26) rfl rfl Try.func99 (by kernel_rfl) rfl #[.int .i64 (rd l0 x11_1), .int .i64 (rd l1 x11_1)] rfl (by (try simp only [List.map_toArray, List.map_cons, List.map_nil]); first | done | rfl | (simp only [List.length_drop, List.length_take]; rfl)) ?_; (with_reducible refine (cmp_Compare_int.calls (rd l0 x11_1) (rd l1 x11_1) t218 _ A8.out).mono ?_); rintro e w' ⟨rfl, ⟨nd, rfl⟩⟩; refine ⟨_, rfl, ?_⟩))
         go_roundg k1
         case measure => have := HK1.out; omega
         case rel => exact ⟨(wrap64 (x11_1 + 1)), (by first | rfl | (simp; done) | (simp [*]; done)), H', ⟨by have := HK1.out; omega⟩, by repeat (first | exact Drawn0.refl _ | apply Drawn0.step)⟩
        ·rw [if_neg c9] at H
         have c9b0 : (t218 == 0) = false := beq_eq_false_iff_ne.mpr c9
         have c9b1 : (t218 != 0) = true := bne_iff_ne.mpr c9
         obtain rfl := Option.some.inj H
         have p216 : 0 ≤ (x11_1 : Int) := of_decide_eq_true (by first | (with_reducible assumption) | assumption)
         have q216 : x11_1 < (l0.length : Int) := of_decide_eq_true (by first | (with_reducible assumption) | assumption)
         obtain ⟨ad216, e216, hx216_0⟩ := Kd.at_int HR0.out x11_1 p216 q216
         cases e216
         replace p216 := eq_true p216
         replace q216 := eq_true q216
         have p217 : 0 ≤ (x11_1 : Int) := of_decide_eq_true (by first | (with_reducible assumption) | assumption)
         have q217 : x11_1 < (l1.length : Int) := of_decide_eq_true (by first | (with_reducible assumption) | assumption)
         obtain ⟨ad217, e217, hx217_0⟩ := Kd.at_int HR1.out x11_1 p217 q217
         cases e217
         replace p217 := eq_true p217
         replace q217 := eq_true q217
         go_wp2_with (first | ((with_reducible refine gate_callee (f := 99) rfl ?_); refine goesL_ (some 26) rfl rfl Try.func99 (by kernel_rfl) rfl #[.int .i64 (rd l0 x11_1), .int .i64 (rd l1 x11_1)] rfl (by (try simp only [List.map_toArray, List.map_cons, List.map_nil]); first | done | rfl | (simp only [List.length_drop, List.length_take]; rfl)) ?_; (with_reducible refine (cmp_Compare_int.calls (rd l0 x11_1) (rd l1 x11_1) t218 _ A8.out).mono ?_); rintro e w' ⟨rfl, ⟨nd, rfl⟩⟩; refine ⟨_, rfl, ?_⟩))
         go_ret
         exact ⟨by first | rfl | (simp; done) | (simp [*]; done), by repeat (first | exact Drawn0.refl _ | apply Drawn0.step)⟩
       ·rw [if_neg c7] at H
        exact absurd H (by simp)
     ·rw [if_neg c5] at H
      exact absurd H (by simp)
    ·rw [if_neg c4] at H
     exact absurd H (by simp)
   ·rw [if_neg c3] at H
    have c3b0 : decide (x11_1 < (l0.length : Int)) = false := decide_eq_false c3
    clear c3
    by_cases c10 : (l0.length : Int) < (l1.length : Int)
    ·rw [if_pos c10] at H
     have c10b0 : decide ((l0.length : Int) < (l1.length : Int)) = true := decide_eq_true c10
     have c10b1 : decide (l0.length < l1.length) = true := decide_eq_true (Int.ofNat_lt.mp c10)
     clear c10
     obtain rfl := Option.some.inj H
     go_wp2
     go_ret
     exact ⟨by first | rfl | (simp; done) | (simp [*]; done), by repeat (first | exact Drawn0.refl _ | apply Drawn0.step)⟩
    ·rw [if_neg c10] at H
     have c10b0 : decide ((l0.length : Int) < (l1.length : Int)) = false := decide_eq_false c10
     have c10b1 : decide (l0.length < l1.length) = false := decide_eq_false (fun h => c10 (Int.ofNat_lt.mpr h))
     clear c10
     obtain rfl := Option.some.inj H
     go_wp2
     go_ret
     exact ⟨by first | rfl | (simp; done) | (simp [*]; done), by repeat (first | exact Drawn0.refl _ | apply Drawn0.step)⟩
end Go.Proofs.Ythkclagcbjnckaa.Pa


namespace Go.Proofs.Ythkclagcbjnckaa.Pa
open Go.RowKit Go.Proofs.YthkclagcbjnckaaW.PrintWords Go.Proofs.YthkclagcbjnckaaW.PrintLast Go.Proofs.YthkclagcbjnckaaW.PrintMore
attribute [local go_sem] max2_int min2_int max_two min_two max_three min_three max_four min_four
set_option linter.unusedVariables false
set_option linter.unusedSimpArgs false
def tenetref24_less.l0 : Nat → List Int → List Int → Int → Option (Bool)
 | 0, _, _, _ => none
 | k + 1, x0, x1, x5 => if x5 < 8 then (if 0 ≤ x5 then (if x5 < (x0.length : Int) then (if x5 < (x1.length : Int) then (if (rd x0 x5) = (rd x1 x5) then (tenetref24_less.l0 k x0 x1 (wrap64 (x5 + 1))) else (some (decide ((rd x0 x5) > (rd x1 x5))))) else (none)) else (none)) else (none)) else (some false)
def tenetref24_less.f (k : Nat) (l0 : List Int) (l1 : List Int) : Option (Bool) := tenetref24_less.l0 k l0 l1 0
set_option maxHeartbeats 8000000 in
set_option maxRecDepth 100000 in
theorem tenetref24_less.calls (k : Nat) (A0 : Option Addr) (c0 : Nat) (l0 : List Int) (A1 : Option Addr) (c1 : Nat) (l1 : List Int) (r : Bool) (w : World) (hr0 : Kd.C (Kd.int .i64) w A0 l0.length l0) (hc0 : l0.length ≤ c0) (hr1 : Kd.C (Kd.int .i64) w A1 l1.length l1) (hc1 : l1.length ≤ c1) (h : tenetref24_less.f k l0 l1 = some r) :
  Calls Try.prog 81 #[.slice A0 l0.length c0, .slice A1 l1.length c1] w fun e w' => e = .returned (.bool r) ∧ Drawn0 w w' := by
 have HR0 := Aside0.mk hr0
 have HC0 := Aside0.mk hc0
 clear hr0 hc0
 have HR1 := Aside0.mk hr1
 have HC1 := Aside0.mk hc1
 clear hr1 hc1
 have H : (tenetref24_less.l0 k l0 l1 0) = some r := h
 clear h
 have H' := Aside0.mk H
 clear H
 go_enter Try.func81, Try.ntmps81
 go_wp2
 repeat (go_quiet (fail); try go_wp2)
 go_loopg [5] k (fun kq v5 w' => ∃ (x5_1 : Int), v5 = .int .i64 x5_1 ∧ Aside0 (tenetref24_less.l0 kq l0 l1 x5_1 = some r) ∧ Aside0 (kq ≤ k) ∧ Drawn0 w w')
 case atStart => exact ⟨(0), (by first | rfl | (simp; done) | (simp [*]; done)), H', ⟨Nat.le_refl _⟩, by repeat (first | exact Drawn0.refl _ | apply Drawn0.step)⟩
 case round =>
  clear H'
  try clear c1
  try clear p2
  obtain ⟨x5_1, rfl, HA, HK1, ⟨m1, rfl⟩⟩ := hrel
  cases gk with
  | zero => exact absurd HA.out (by simp [tenetref24_less.l0])
  | succ k1 =>
   have H := HA.out
   clear HA
   simp only [tenetref24_less.l0] at H
   by_cases c3 : x5_1 < 8
   ·rw [if_pos c3] at H
    have c3b0 : decide (x5_1 < 8) = true := decide_eq_true c3
    clear c3
    by_cases c4 : 0 ≤ x5_1
    ·rw [if_pos c4] at H
     have c4b0 : decide (0 ≤ x5_1) = true := decide_eq_true c4
     clear c4
     by_cases c5 : x5_1 < (l0.length : Int)
     ·rw [if_pos c5] at H
      have c5b0 : decide (x5_1 < (l0.length : Int)) = true := decide_eq_true c5
      clear c5
      by_cases c6 : x5_1 < (l1.length : Int)
      ·rw [if_pos c6] at H
       have c6b0 : decide (x5_1 < (l1.length : Int)) = true := decide_eq_true c6
       clear c6
       by_cases c7 : (rd l0 x5_1) = (rd l1 x5_1)
       ·rw [if_pos c7] at H
        have c7b0 : ((rd l0 x5_1) == (rd l1 x5_1)) = true := beq_iff_eq.mpr c7
        have c7b1 : ((rd l0 x5_1) != (rd l1 x5_1)) = false := bne_eq_false_iff_eq.mpr c7
        clear c7
        have H' := Aside0.mk H
        clear H
        have p227 : 0 ≤ (x5_1 : Int) := of_decide_eq_true (by first | (with_reducible assumption) | assumption)
        have q227 : x5_1 < (l0.length : Int) := of_decide_eq_true (by first | (with_reducible assumption) | assumption)
        obtain ⟨ad227, e227, hx227_0⟩ := Kd.at_int HR0.out x5_1 p227 q227
        cases e227
        replace p227 := eq_true p227
        replace q227 := eq_true q227
        have p228 : 0 ≤ (x5_1 : Int) := of_decide_eq_true (by first | (with_reducible assumption) | assumption)
        have q228 : x5_1 < (l1.length : Int) := of_decide_eq_true (by first | (with_reducible assumption) | assumption)
        obtain ⟨ad228, e228, hx228_0⟩ := Kd.at_int HR1.out x5_1 p228 q228
        cases e228
        replace p228 := eq_true p228
        replace q228 := eq_true q228
        go_wp2
        repeat (go_quiet (fail); try go_wp2)
        go_roundg k1
        case measure => have := HK1.out; omega
        case rel => exact ⟨(wrap64 (x5_1 + 1)), (by first | rfl | (simp; done) | (simp [*]; done)), H', ⟨by have := HK1.out; omega⟩, by repeat (first | exact Drawn0.refl _ | apply Drawn0.step)⟩
       ·rw [if_neg c7] at H
        have c7b0 : ((rd l0 x5_1) == (rd l1 x5_1)) = false := beq_eq_false_iff_ne.mpr c7
        have c7b1 : ((rd l0 x5_1) != (rd l1 x5_1)) = true := bne_iff_ne.mpr c7
        obtain rfl := Option.some.inj H
        have p227 : 0 ≤ (x5_1 : Int) := of_decide_eq_true (by first | (with_reducible assumption) | assumption)
        have q227 : x5_1 < (l0.length : Int) := of_decide_eq_true (by first | (with_reducible assumption) | assumption)
        obtain ⟨ad227, e227, hx227_0⟩ := Kd.at_int HR0.out x5_1 p227 q227
        cases e227
        replace p227 := eq_true p227
        replace q227 := eq_true q227
        have p228 : 0 ≤ (x5_1 : Int) := of_decide_eq_true (by first | (with_reducible assumption) | assumption)
        have q228 : x5_1 < (l1.length : Int) := of_decide_eq_true (by first | (with_reducible assumption) | assumption)
        obtain ⟨ad228, e228, hx228_0⟩ := Kd.at_int HR1.out x5_1 p228 q228
        cases e228
        replace p228 := eq_true p228
        replace q228 := eq_true q228
        have p229 : 0 ≤ (x5_1 : Int) := of_decide_eq_true (by first | (with_reducible assumption) | assumption)
        have q229 : x5_1 < (l0.length : Int) := of_decide_eq_true (by first | (with_reducible assumption) | assumption)
        obtain ⟨ad229, e229, hx229_0⟩ := Kd.at_int HR0.out x5_1 p229 q229
        obtain rfl : ad227 = ad229 := (by injection e229)
        replace p229 := eq_true p229
        replace q229 := eq_true q229
        have p230 : 0 ≤ (x5_1 : Int) := of_decide_eq_true (by first | (with_reducible assumption) | assumption)
        have q230 : x5_1 < (l1.length : Int) := of_decide_eq_true (by first | (with_reducible assumption) | assumption)
        obtain ⟨ad230, e230, hx230_0⟩ := Kd.at_int HR1.out x5_1 p230 q230
        obtain rfl : ad228 = ad230 := (by injection e230)
        replace p230 := eq_true p230
        replace q230 := eq_true q230
        go_wp2
        repeat (go_quiet (fail); try go_wp2)
        go_ret
        exact ⟨by first | rfl | (simp; done) | (simp [*]; done), by repeat (first | exact Drawn0.refl _ | apply Drawn0.step)⟩
      ·rw [if_neg c6] at H
       exact absurd H (by simp)
     ·rw [if_neg c5] at H
      exact absurd H (by simp)
    ·rw [if_neg c4] at H
     exact absurd H (by simp)
   ·rw [if_neg c3] at H
    have c3b0 : decide (x5_1 < 8) = false := decide_eq_false c3
    clear c3
    obtain rfl := Option.some.inj H
    go_wp2
    repeat (go_quiet (fail); try go_wp2)
    go_ret
    exact ⟨by first | rfl | (simp; done) | (simp [*]; done), by repeat (first | exact Drawn0.refl _ | apply Drawn0.step)⟩
end Go.Proofs.Ythkclagcbjnckaa.Pa


namespace Go.Proofs.Ythkclagcbjnckaa.Pa
open Go.RowKit Go.Proofs.YthkclagcbjnckaaW.PrintWords Go.Proofs.YthkclagcbjnckaaW.PrintLast Go.Proofs.YthkclagcbjnckaaW.PrintMore
attribute [local go_sem] max2_int min2_int max_two min_two max_three min_three max_four min_four
set_option linter.unusedVariables false
set_option linter.unusedSimpArgs false
mutual
def tenetref24_Is.l0 : Nat → List (S60) → Int → Option (Bool)
 | 0, _, _ => none
 | k + 1, x0, x3 => if x3 < (x0.length : Int) then (if 0 ≤ x3 then (if ((rd_T60 x0 x3).f0) < 1 then (tenetref24_Is.j1 k x0 x3 true) else (if ((rd_T60 x0 x3).f0) > 1000000000000000 then (tenetref24_Is.j1 k x0 x3 true) else (tenetref24_Is.j1 k x0 x3 ((((rd_T60 x0 x3).f1).length : Int) != 8)))) else (none)) else (some true)
def tenetref24_Is.j1 : Nat → List (S60) → Int → Bool → Option (Bool)
 | 0, _, _, _ => none
 | k + 1, x0, x3, x36 => if x36 = true then (some false) else (tenetref24_Is.l1 k x0 x3 0)
def tenetref24_Is.l1 : Nat → List (S60) → Int → Int → Option (Bool)
 | 0, _, _, _ => none
 | k + 1, x0, x3, x4 => if x4 < 8 then (if 0 ≤ x3 then (if x3 < (x0.length : Int) then (if 0 ≤ x4 then (if x4 < (((rd_T60 x0 x3).f1).length : Int) then (if (rd ((rd_T60 x0 x3).f1) x4) < 0 then (some false) else (if (rd ((rd_T60 x0 x3).f1) x4) > 60 then (some false) else (tenetref24_Is.l1 k x0 x3 (wrap64 (x4 + 1))))) else (none)) else (none)) else (none)) else (none)) else (if x3 > 0 then (if 0 ≤ (wrap64 (x3 - 1)) then (if (wrap64 (x3 - 1)) < (x0.length : Int) then (if 0 ≤ x3 then (if x3 < (x0.length : Int) then ((tenetref24_less.f k ((rd_T60 x0 (wrap64 (x3 - 1))).f1) ((rd_T60 x0 x3).f1)).bind fun t240 => (if t240 = true then (tenetref24_Is.l0 k x0 (wrap64 (x3 + 1))) else (some false))) else (none)) else (none)) else (none)) else (none)) else (tenetref24_Is.l0 k x0 (wrap64 (x3 + 1))))
end
def tenetref24_Is.f (k : Nat) (l0 : List (S60)) : Option (Bool) := if (l0.length : Int) > 200 then (some false) else (tenetref24_Is.l0 k l0 0)
set_option maxHeartbeats 8000000 in
set_option maxRecDepth 100000 in
theorem tenetref24_Is.calls (k : Nat) (A0 : Option Addr) (c0 : Nat) (l0 : List (S60)) (r : Bool) (w : World) (hr0 : Kd.C k60 w A0 l0.length l0) (hc0 : l0.length ≤ c0) (h : tenetref24_Is.f k l0 = some r) :
  Calls Try.prog 49 #[.slice A0 l0.length c0] w fun e w' => e = .returned (.bool r) ∧ Drawn0 w w' := by
 have HR0 := Aside0.mk hr0
 have HC0 := Aside0.mk hc0
 clear hr0 hc0
 have H : (if (l0.length : Int) > 200 then (some false) else (tenetref24_Is.l0 k l0 0)) = some r := h
 clear h
 by_cases c2 : (l0.length : Int) > 200
 ·rw [if_pos c2] at H
  have c2b0 : decide (200 < (l0.length : Int)) = true := decide_eq_true c2
  have c2b1 : decide (200 < l0.length) = true := decide_eq_true (by omega)
  clear c2
  obtain rfl := Option.some.inj H
  go_enter Try.func49, Try.ntmps49
  go_wp2
  repeat (go_quiet (fail); try go_wp2)
  go_ret
  exact ⟨by first | rfl | (simp; done) | (simp [*]; done), by repeat (first | exact Drawn0.refl _ | apply Drawn0.step)⟩
 ·rw [if_neg c2] at H
  have c2b0 : decide (200 < (l0.length : Int)) = false := decide_eq_false c2
  have c2b1 : decide (200 < l0.length) = false := decide_eq_false (by omega)
  clear c2
  have H' := Aside0.mk H
  clear H
  go_enter Try.func49, Try.ntmps49
  go_wp2
  repeat (go_quiet (fail); try go_wp2)
  go_loopg [3] k (fun kq v3 w' => ∃ (x3_1 : Int), v3 = .int .i64 x3_1 ∧ Aside0 (tenetref24_Is.l0 kq l0 x3_1 = some r) ∧ Aside0 (kq ≤ k) ∧ Drawn0 w w')
  case atStart => exact ⟨(0), (by first | rfl | (simp; done) | (simp [*]; done)), H', ⟨Nat.le_refl _⟩, by repeat (first | exact Drawn0.refl _ | apply Drawn0.step)⟩
  case round =>
   clear H'
   try clear c2
   try clear c2b0
   try clear c2b1
   try clear p2
   obtain ⟨x3_1, rfl, HA, HK1, ⟨m1, rfl⟩⟩ := hrel
   cases gk with
   | zero => exact absurd HA.out (by simp [tenetref24_Is.l0])
   | succ k1 =>
    have H := HA.out
    clear HA
    simp only [tenetref24_Is.l0] at H
    by_cases c3 : x3_1 < (l0.length : Int)
    ·rw [if_pos c3] at H
     have c3b0 : decide (x3_1 < (l0.length : Int)) = true := decide_eq_true c3
     clear c3
     have HC4 := Aside0.mk H
     clear H
     go_upto_region 6 with (fail)
     repeat (go_quiet (fail); go_upto_region 6 with (fail))
     go_cut [36] (fun v36 wc => ∃ (kq : Nat) (x36_3 : Bool), v36 = .bool x36_3 ∧ Aside0 (tenetref24_Is.j1 kq l0 x3_1 x36_3 = some r) ∧ Aside0 (kq ≤ k1) ∧ Drawn0 w wc)
     case first =>
      have H := HC4.out
      clear HC4
      by_cases c5 : 0 ≤ x3_1
      ·rw [if_pos c5] at H
       have c5b0 : decide (0 ≤ x3_1) = true := decide_eq_true c5
       clear c5
       (first | rw [c5b0] | (simp only [i64_w, i32_w]; rw [c5b0]) | skip)
       by_cases c6 : ((rd_T60 l0 x3_1).f0) < 1
       ·rw [if_pos c6] at H
        have c6b0 : decide (((rd_T60 l0 x3_1).f0) < 1) = true := decide_eq_true c6
        clear c6
        have H' := Aside0.mk H
        clear H
        have p231 : 0 ≤ (x3_1 : Int) := of_decide_eq_true (by first | (with_reducible assumption) | assumption)
        have q231 : x3_1 < (l0.length : Int) := of_decide_eq_true (by first | (with_reducible assumption) | assumption)
        obtain ⟨ad231, A231_1, c231_1, e231, hx231_0, hx231_1, hl231_1, hi231_1⟩ := at_T60 HR0.out x3_1 p231 q231
        cases e231
        have HR231_1 := Aside0.mk hi231_1
        have HC231_1 := Aside0.mk hl231_1
        clear hi231_1 hl231_1
        replace p231 := eq_true p231
        replace q231 := eq_true q231
        go_wp2
        repeat (go_quiet (fail); try go_wp2)
        go_meet
        case rel => exact ⟨_, (true), (by first | rfl | (simp; done) | (simp [*]; done)), H', ⟨by have := HK1.out; first | omega | exact Nat.le_refl _⟩, by repeat (first | exact Drawn0.refl _ | apply Drawn0.step)⟩
       ·rw [if_neg c6] at H
        have c6b0 : decide (((rd_T60 l0 x3_1).f0) < 1) = false := decide_eq_false c6
        clear c6
        by_cases c7 : ((rd_T60 l0 x3_1).f0) > 1000000000000000
        ·rw [if_pos c7] at H
         have c7b0 : decide (1000000000000000 < ((rd_T60 l0 x3_1).f0)) = true := decide_eq_true c7
         clear c7
         have H' := Aside0.mk H
         clear H
         have p231 : 0 ≤ (x3_1 : Int) := of_decide_eq_true (by first | (with_reducible assumption) | assumption)
         have q231 : x3_1 < (l0.length : Int) := of_decide_eq_true (by first | (with_reducible assumption) | assumption)
         obtain ⟨ad231, A231_1, c231_1, e231, hx231_0, hx231_1, hl231_1, hi231_1⟩ := at_T60 HR0.out x3_1 p231 q231
         cases e231
         have HR231_1 := Aside0.mk hi231_1
         have HC231_1 := Aside0.mk hl231_1
         clear hi231_1 hl231_1
         replace p231 := eq_true p231
         replace q231 := eq_true q231
         have p232 : 0 ≤ (x3_1 : Int) := of_decide_eq_true (by first | (with_reducible assumption) | assumption)
         have q232 : x3_1 < (l0.length : Int) := of_decide_eq_true (by first | (with_reducible assumption) | assumption)
         obtain ⟨ad232, A232_1, c232_1, e232, hx232_0, hx232_1, hl232_1, hi232_1⟩ := at_T60 HR0.out x3_1 p232 q232
         obtain rfl : ad231 = ad232 := (by injection e232)
         have HR232_1 := Aside0.mk hi232_1
         have HC232_1 := Aside0.mk hl232_1
         clear hi232_1 hl232_1
         replace p232 := eq_true p232
         replace q232 := eq_true q232
         have ea_ := Option.some.inj (hx231_1.symm.trans hx232_1)
         injection ea_ with ea_ en_ ec_
         subst ea_
         subst ec_
         clear en_
         go_wp2
         repeat (go_quiet (fail); try go_wp2)
         go_meet
         case rel => exact ⟨_, (true), (by first | rfl | (simp; done) | (simp [*]; done)), H', ⟨by have := HK1.out; first | omega | exact Nat.le_refl _⟩, by repeat (first | exact Drawn0.refl _ | apply Drawn0.step)⟩
        ·rw [if_neg c7] at H
         have c7b0 : decide (1000000000000000 < ((rd_T60 l0 x3_1).f0)) = false := decide_eq_false c7
         clear c7
         have H' := Aside0.mk H
         clear H
         have p231 : 0 ≤ (x3_1 : Int) := of_decide_eq_true (by first | (with_reducible assumption) | assumption)
         have q231 : x3_1 < (l0.length : Int) := of_decide_eq_true (by first | (with_reducible assumption) | assumption)
         obtain ⟨ad231, A231_1, c231_1, e231, hx231_0, hx231_1, hl231_1, hi231_1⟩ := at_T60 HR0.out x3_1 p231 q231
         cases e231
         have HR231_1 := Aside0.mk hi231_1
         have HC231_1 := Aside0.mk hl231_1
         clear hi231_1 hl231_1
         replace p231 := eq_true p231
         replace q231 := eq_true q231
         have p232 : 0 ≤ (x3_1 : Int) := of_decide_eq_true (by first | (with_reducible assumption) | assumption)
         have q232 : x3_1 < (l0.length : Int) := of_decide_eq_true (by first | (with_reducible assumption) | assumption)
         obtain ⟨ad232, A232_1, c232_1, e232, hx232_0, hx232_1, hl232_1, hi232_1⟩ := at_T60 HR0.out x3_1 p232 q232
         obtain rfl : ad231 = ad232 := (by injection e232)
         have HR232_1 := Aside0.mk hi232_1
         have HC232_1 := Aside0.mk hl232_1
         clear hi232_1 hl232_1
         replace p232 := eq_true p232
         replace q232 := eq_true q232
         have ea_ := Option.some.inj (hx231_1.symm.trans hx232_1)
         injection ea_ with ea_ en_ ec_
         subst ea_
         subst ec_
         clear en_
         have p233 : 0 ≤ (x3_1 : Int) := of_decide_eq_true (by first | (with_reducible assumption) | assumption)
         have q233 : x3_1 < (l0.length : Int) := of_decide_eq_true (by first | (with_reducible assumption) | assumption)
         obtain ⟨ad233, A233_1, c233_1, e233, hx233_0, hx233_1, hl233_1, hi233_1⟩ := at_T60 HR0.out x3_1 p233 q233
         obtain rfl : ad231 = ad233 := (by injection e233)
         have HR233_1 := Aside0.mk hi233_1
         have HC233_1 := Aside0.mk hl233_1
         clear hi233_1 hl233_1
         replace p233 := eq_true p233
         replace q233 := eq_true q233
         have ea_ := Option.some.inj (hx231_1.symm.trans hx233_1)
         injection ea_ with ea_ en_ ec_
         subst ea_
         subst ec_
         clear en_
         go_wp2
         repeat (go_quiet (fail); try go_wp2)
         go_meet
         case rel => exact ⟨_, (((((rd_T60 l0 x3_1).f1).length : Int) != 8)), (by first | rfl | (simp; done) | (simp [*]; done)), H', ⟨by have := HK1.out; first | omega | exact Nat.le_refl _⟩, by repeat (first | exact Drawn0.refl _ | apply Drawn0.step)⟩
      ·rw [if_neg c5] at H
       exact absurd H (by simp)
     case rest =>
      clear HC4
      try clear c2
      try clear c2b0
      try clear c2b1
      try clear p2
      try clear q2
      try clear hx2
      try clear c3
      try clear c3b0
      try clear c4
      try clear c5
      try clear c5b0
      try clear c6
      try clear c6b0
      try clear c7
      try clear c7b0
      try clear hx231_0
      try clear hx231_1
      try clear hx232_0
      try clear hx232_1
      try clear hx233_0
      try clear hx233_1
      try clear p2
      try clear p231
      try clear p232
      try clear p233
      try clear q231
      try clear q232
      try clear q233
      obtain ⟨kq, x36_3, rfl, HA, HJ3, ⟨mc3, rfl⟩⟩ := hcut
      cases kq with
      | zero => exact absurd HA.out (by simp [tenetref24_Is.j1])
      | succ kj3 =>
       have H := HA.out
       clear HA
       simp only [tenetref24_Is.j1] at H
       by_cases c8 : x36_3 = true
       ·subst c8
        have H1 : (some false) = some r := by rw [if_pos rfl] at H; exact H
        clear H
        have H := H1
        clear H1
        obtain rfl := Option.some.inj H
        go_wp2
        repeat (go_quiet (fail); try go_wp2)
        go_ret
        exact ⟨by first | rfl | (simp; done) | (simp [*]; done), by repeat (first | exact Drawn0.refl _ | apply Drawn0.step)⟩
       ·replace c8 := Bool.eq_false_iff.mpr c8
        subst c8
        have H1 : (tenetref24_Is.l1 kj3 l0 x3_1 0) = some r := by rw [if_neg (show ¬ (false = true) by decide)] at H; exact H
        clear H
        have H := H1
        clear H1
        have H' := Aside0.mk H
        clear H
        go_wp2
        repeat (go_quiet (fail); try go_wp2)
        go_loopg [4] kj3 (fun kq v4 w' => ∃ (x4_3 : Int), v4 = .int .i64 x4_3 ∧ Aside0 (tenetref24_Is.l1 kq l0 x3_1 x4_3 = some r) ∧ Aside0 (kq ≤ kj3) ∧ Drawn0 w w')
        case atStart => exact ⟨(0), (by first | rfl | (simp; done) | (simp [*]; done)), H', ⟨Nat.le_refl _⟩, by repeat (first | exact Drawn0.refl _ | apply Drawn0.step)⟩
        case round =>
         clear H'
         try clear c2
         try clear c2b0
         try clear c2b1
         try clear p2
         try clear q2
         try clear hx2
         try clear c3
         try clear c3b0
         try clear c4
         try clear c5
         try clear c5b0
         try clear c6
         try clear c6b0
         try clear c7
         try clear c7b0
         try clear c8
         try clear hx231_0
         try clear hx231_1
         try clear hx232_0
         try clear hx232_1
         try clear hx233_0
         try clear hx233_1
         try clear p2
         try clear p231
         try clear p232
         try clear p233
         try clear q2
         try clear q231
         try clear q232
         try clear q233
         obtain ⟨x4_3, rfl, HA, HK3, ⟨m3, rfl⟩⟩ := hrel
         cases gk with
         | zero => exact absurd HA.out (by simp [tenetref24_Is.l1])
         | succ k3 =>
          have H := HA.out
          clear HA
          simp only [tenetref24_Is.l1] at H
          by_cases c9 : x4_3 < 8
          ·rw [if_pos c9] at H
           have c9b0 : decide (x4_3 < 8) = true := decide_eq_true c9
           clear c9
           by_cases c10 : 0 ≤ x3_1
           ·rw [if_pos c10] at H
            have c10b0 : decide (0 ≤ x3_1) = true := decide_eq_true c10
            clear c10
            by_cases c11 : x3_1 < (l0.length : Int)
            ·rw [if_pos c11] at H
             have c11b0 : decide (x3_1 < (l0.length : Int)) = true := decide_eq_true c11
             clear c11
             by_cases c12 : 0 ≤ x4_3
             ·rw [if_pos c12] at H
              have c12b0 : decide (0 ≤ x4_3) = true := decide_eq_true c12
              clear c12
              by_cases c13 : x4_3 < (((rd_T60 l0 x3_1).f1).length : Int)
              ·rw [if_pos c13] at H
               have c13b0 : decide (x4_3 < (((rd_T60 l0 x3_1).f1).length : Int)) = true := decide_eq_true c13
               clear c13
               by_cases c14 : (rd ((rd_T60 l0 x3_1).f1) x4_3) < 0
               ·rw [if_pos c14] at H
                have c14b0 : decide ((rd ((rd_T60 l0 x3_1).f1) x4_3) < 0) = true := decide_eq_true c14
                clear c14
                obtain rfl := Option.some.inj H
                have p234 : 0 ≤ (x3_1 : Int) := of_decide_eq_true (by first | (with_reducible assumption) | assumption)
                have q234 : x3_1 < (l0.length : Int) := of_decide_eq_true (by first | (with_reducible assumption) | assumption)
                obtain ⟨ad234, A234_1, c234_1, e234, hx234_0, hx234_1, hl234_1, hi234_1⟩ := at_T60 HR0.out x3_1 p234 q234
                cases e234
                have HR234_1 := Aside0.mk hi234_1
                have HC234_1 := Aside0.mk hl234_1
                clear hi234_1 hl234_1
                replace p234 := eq_true p234
                replace q234 := eq_true q234
                have p235 : 0 ≤ (x4_3 : Int) := of_decide_eq_true (by first | (with_reducible assumption) | assumption)
                have q235 : x4_3 < (((rd_T60 l0 x3_1).f1).length : Int) := of_decide_eq_true (by first | (with_reducible assumption) | assumption)
                obtain ⟨ad235, e235, hx235_0⟩ := Kd.at_int HR234_1.out x4_3 p235 q235
                cases e235
                replace p235 := eq_true p235
                replace q235 := eq_true q235
                go_wp2
                repeat (go_quiet (fail); try go_wp2)
                go_ret
                exact ⟨by first | rfl | (simp; done) | (simp [*]; done), by repeat (first | exact Drawn0.refl _ | apply Drawn0.step)⟩
               ·rw [if_neg c14] at H
                have c14b0 : decide ((rd ((rd_T60 l0 x3_1).f1) x4_3) < 0) = false := decide_eq_false c14
                clear c14
                by_cases c15 : (rd ((rd_T60 l0 x3_1).f1) x4_3) > 60
                ·rw [if_pos c15] at H
                 have c15b0 : decide (60 < (rd ((rd_T60 l0 x3_1).f1) x4_3)) = true := decide_eq_true c15
                 clear c15
                 obtain rfl := Option.some.inj H
                 have p234 : 0 ≤ (x3_1 : Int) := of_decide_eq_true (by first | (with_reducible assumption) | assumption)
                 have q234 : x3_1 < (l0.length : Int) := of_decide_eq_true (by first | (with_reducible assumption) | assumption)
                 obtain ⟨ad234, A234_1, c234_1, e234, hx234_0, hx234_1, hl234_1, hi234_1⟩ := at_T60 HR0.out x3_1 p234 q234
                 cases e234
                 have HR234_1 := Aside0.mk hi234_1
                 have HC234_1 := Aside0.mk hl234_1
                 clear hi234_1 hl234_1
                 replace p234 := eq_true p234
                 replace q234 := eq_true q234
                 have p235 : 0 ≤ (x4_3 : Int) := of_decide_eq_true (by first | (with_reducible assumption) | assumption)
                 have q235 : x4_3 < (((rd_T60 l0 x3_1).f1).length : Int) := of_decide_eq_true (by first | (with_reducible assumption) | assumption)
                 obtain ⟨ad235, e235, hx235_0⟩ := Kd.at_int HR234_1.out x4_3 p235 q235
                 cases e235
                 replace p235 := eq_true p235
                 replace q235 := eq_true q235
                 have p236 : 0 ≤ (x3_1 : Int) := of_decide_eq_true (by first | (with_reducible assumption) | assumption)
                 have q236 : x3_1 < (l0.length : Int) := of_decide_eq_true (by first | (with_reducible assumption) | assumption)
                 obtain ⟨ad236, A236_1, c236_1, e236, hx236_0, hx236_1, hl236_1, hi236_1⟩ := at_T60 HR0.out x3_1 p236 q236
                 obtain rfl : ad234 = ad236 := (by injection e236)
                 have HR236_1 := Aside0.mk hi236_1
                 have HC236_1 := Aside0.mk hl236_1
                 clear hi236_1 hl236_1
                 replace p236 := eq_true p236
                 replace q236 := eq_true q236
                 have ea_ := Option.some.inj (hx234_1.symm.trans hx236_1)
                 injection ea_ with ea_ en_ ec_
                 subst ea_
                 subst ec_
                 clear en_
                 have p237 : 0 ≤ (x4_3 : Int) := of_decide_eq_true (by first | (with_reducible assumption) | assumption)
                 have q237 : x4_3 < (((rd_T60 l0 x3_1).f1).length : Int) := of_decide_eq_true (by first | (with_reducible assumption) | assumption)
                 obtain ⟨ad237, e237, hx237_0⟩ := Kd.at_int HR236_1.out x4_3 p237 q237
                 cases e237
                 replace p237 := eq_true p237
                 replace q237 := eq_true q237
                 go_wp2
                 repeat (go_quiet (fail); try go_wp2)
                 go_ret
                 exact ⟨by first | rfl | (simp; done) | (simp [*]; done), by repeat (first | exact Drawn0.refl _ | apply Drawn0.step)⟩
                ·rw [if_neg c15] at H
                 have c15b0 : decide (60 < (rd ((rd_T60 l0 x3_1).f1) x4_3)) = false := decide_eq_false c15
                 clear c15
                 have H' := Aside0.mk H
                 clear H
                 have p234 : 0 ≤ (x3_1 : Int) := of_decide_eq_true (by first | (with_reducible assumption) | assumption)
                 have q234 : x3_1 < (l0.length : Int) := of_decide_eq_true (by first | (with_reducible assumption) | assumption)
                 obtain ⟨ad234, A234_1, c234_1, e234, hx234_0, hx234_1, hl234_1, hi234_1⟩ := at_T60 HR0.out x3_1 p234 q234
                 cases e234
                 have HR234_1 := Aside0.mk hi234_1
                 have HC234_1 := Aside0.mk hl234_1
                 clear hi234_1 hl234_1
                 replace p234 := eq_true p234
                 replace q234 := eq_true q234
                 have p235 : 0 ≤ (x4_3 : Int) := of_decide_eq_true (by first | (with_reducible assumption) | assumption)
                 have q235 : x4_3 < (((rd_T60 l0 x3_1).f1).length : Int) := of_decide_eq_true (by first | (with_reducible assumption) | assumption)
                 obtain ⟨ad235, e235, hx235_0⟩ := Kd.at_int HR234_1.out x4_3 p235 q235
                 cases e235
                 replace p235 := eq_true p235
                 replace q235 := eq_true q235
                 have p236 : 0 ≤ (x3_1 : Int) := of_decide_eq_true (by first | (with_reducible assumption) | assumption)
                 have q236 : x3_1 < (l0.length : Int) := of_decide_eq_true (by first | (with_reducible assumption) | assumption)
                 obtain ⟨ad236, A236_1, c236_1, e236, hx236_0, hx236_1, hl236_1, hi236_1⟩ := at_T60 HR0.out x3_1 p236 q236
                 obtain rfl : ad234 = ad236 := (by injection e236)
                 have HR236_1 := Aside0.mk hi236_1
                 have HC236_1 := Aside0.mk hl236_1
                 clear hi236_1 hl236_1
                 replace p236 := eq_true p236
                 replace q236 := eq_true q236
                 have ea_ := Option.some.inj (hx234_1.symm.trans hx236_1)
                 injection ea_ with ea_ en_ ec_
                 subst ea_
                 subst ec_
                 clear en_
                 have p237 : 0 ≤ (x4_3 : Int) := of_decide_eq_true (by first | (with_reducible assumption) | assumption)
                 have q237 : x4_3 < (((rd_T60 l0 x3_1).f1).length : Int) := of_decide_eq_true (by first | (with_reducible assumption) | assumption)
                 obtain ⟨ad237, e237, hx237_0⟩ := Kd.at_int HR236_1.out x4_3 p237 q237
                 cases e237
                 replace p237 := eq_true p237
                 replace q237 := eq_true q237
                 go_wp2
                 repeat (go_quiet (fail); try go_wp2)
                 go_roundg k3
                 case measure => have := HK1.out; have := HJ3.out; have := HK3.out; omega
                 case rel => exact ⟨(wrap64 (x4_3 + 1)), (by first | rfl | (simp; done) | (simp [*]; done)), H', ⟨by have := HK1.out; have := HJ3.out; have := HK3.out; omega⟩, by repeat (first | exact Drawn0.refl _ | apply Drawn0.step)⟩
              ·rw [if_neg c13] at H
               exact absurd H (by simp)
             ·rw [if_neg c12] at H
              exact absurd H (by simp)
            ·rw [if_neg c11] at H
             exact absurd H (by simp)
           ·rw [if_neg c10] at H
            exact absurd H (by simp)
          ·rw [if_neg c9] at H
           have c9b0 : decide (x4_3 < 8) = false := decide_eq_false c9
           clear c9
           by_cases c16 : x3_1 > 0
           ·rw [if_pos c16] at H
            have c16b0 : decide (0 < x3_1) = true := decide_eq_true c16
            clear c16
            obtain ⟨ji17, hji17⟩ : ∃ j_ : Int, (wrap64 (x3_1 - 1)) = j_ := ⟨_, rfl⟩
            replace H : (if 0 ≤ (ji17) then (if (ji17) < (l0.length : Int) then (if 0 ≤ x3_1 then (if x3_1 < (l0.length : Int) then ((tenetref24_less.f k3 ((rd_T60 l0 (ji17)).f1) ((rd_T60 l0 x3_1).f1)).bind fun t240 => (if t240 = true then (tenetref24_Is.l0 k3 l0 (wrap64 (x3_1 + 1))) else (some false))) else (none)) else (none)) else (none)) else (none)) = some r := by first | (rw [hji17] at H; exact H) | (simp only [hji17] at H ⊢; exact H)
            have hji17w : (IntKind.i64.wrap (x3_1 - 1)) = ji17 := (i64_w _).trans hji17
            by_cases c18 : 0 ≤ (ji17)
            ·rw [if_pos c18] at H
             have c18b0 : decide (0 ≤ (ji17)) = true := decide_eq_true c18
             clear c18
             by_cases c19 : (ji17) < (l0.length : Int)
             ·rw [if_pos c19] at H
              have c19b0 : decide ((ji17) < (l0.length : Int)) = true := decide_eq_true c19
              clear c19
              by_cases c20 : 0 ≤ x3_1
              ·rw [if_pos c20] at H
               have c20b0 : decide (0 ≤ x3_1) = true := decide_eq_true c20
               clear c20
               by_cases c21 : x3_1 < (l0.length : Int)
               ·rw [if_pos c21] at H
                have c21b0 : decide (x3_1 < (l0.length : Int)) = true := decide_eq_true c21
                clear c21
                replace H := Option.bind_eq_some_iff.mp H
                obtain ⟨t240, A220, H⟩ := H
                replace H : (if t240 = true then (tenetref24_Is.l0 k3 l0 (wrap64 (x3_1 + 1))) else (some false)) = some r := H
                have A22 := Aside0.mk A220
                clear A220
                by_cases c23 : t240 = true
                ·subst c23
                 have H1 : (tenetref24_Is.l0 k3 l0 (wrap64 (x3_1 + 1))) = some r := by rw [if_pos rfl] at H; exact H
                 clear H
                 have H := H1
                 clear H1
                 have H' := Aside0.mk H
                 clear H
                 have p238 : 0 ≤ ((ji17) : Int) := of_decide_eq_true (by first | (with_reducible assumption) | assumption)
                 have q238 : (ji17) < (l0.length : Int) := of_decide_eq_true (by first | (with_reducible assumption) | assumption)
                 obtain ⟨ad238, A238_1, c238_1, e238, hx238_0, hx238_1, hl238_1, hi238_1⟩ := at_T60 HR0.out (ji17) p238 q238
                 cases e238
                 have HR238_1 := Aside0.mk hi238_1
                 have HC238_1 := Aside0.mk hl238_1
                 clear hi238_1 hl238_1
                 replace p238 := eq_true p238
                 replace q238 := eq_true q238
                 have p239 : 0 ≤ (x3_1 : Int) := of_decide_eq_true (by first | (with_reducible assumption) | assumption)
                 have q239 : x3_1 < (l0.length : Int) := of_decide_eq_true (by first | (with_reducible assumption) | assumption)
                 obtain ⟨ad239, A239_1, c239_1, e239, hx239_0, hx239_1, hl239_1, hi239_1⟩ := at_T60 HR0.out x3_1 p239 q239
                 obtain rfl : ad238 = ad239 := (by injection e239)
                 have HR239_1 := Aside0.mk hi239_1
                 have HC239_1 := Aside0.mk hl239_1
                 clear hi239_1 hl239_1
                 replace p239 := eq_true p239
                 replace q239 := eq_true q239
                 go_wp2_with (first | (go_at_call 81; (with_reducible refine (tenetref24_less.calls k3 _ _ ((rd_T60 l0 (ji17)).f1) _ _ ((rd_T60 l0 x3_1).f1) true _ ?side1 ?side2 ?side3 ?side4 A22.out).mono ?_); (case side1 => repeat (first | exact HR238_1.out | (with_reducible refine Kd.C_alloc ?_ _) | (with_reducible refine Kd.C_drewN ?_ _) | (with_reducible refine Kd.C_drew ?_))); (case side2 => exact HC238_1.out); (case side3 => repeat (first | exact HR239_1.out | (with_reducible refine Kd.C_alloc ?_ _) | (with_reducible refine Kd.C_drewN ?_ _) | (with_reducible refine Kd.C_drew ?_))); (case side4 => exact HC239_1.out); rintro e w' ⟨rfl, ⟨nd, rfl⟩⟩; (try first | exact ⟨rfl, _, World.drewN_drewN _ _ _⟩ | exact ⟨rfl, _, Eq.trans (World.drewN_drewN _ _ _) (congrArg (World.drewN _) (Nat.add_assoc _ _ _))⟩)))
                 repeat (go_quiet (first | (go_at_call 81; (with_reducible refine (tenetref24_less.calls k3 _ _ ((rd_T60 l0 (ji17)).f1) _ _ ((rd_T60 l0 x3_1).f1) true _ ?side1 ?side2 ?side3 ?side4 A22.out).mono ?_); (case side1 => repeat (first | exact HR238_1.out | (with_reducible refine Kd.C_alloc ?_ _) | (with_reducible refine Kd.C_drewN ?_ _) | (with_reducible refine Kd.C_drew ?_))); (case side2 => exact HC238_1.out); (case side3 => repeat (first | exact HR239_1.out | (with_reducible refine Kd.C_alloc ?_ _) | (with_reducible refine Kd.C_drewN ?_ _) | (with_reducible refine Kd.C_drew ?_))); (case side4 => exact HC239_1.out); rintro e w' ⟨rfl, ⟨nd, rfl⟩⟩; (try first | exact ⟨rfl, _, World.drewN_drewN _ _ _⟩ | exact ⟨rfl, _, Eq.trans (World.drewN_drewN _ _ _) (congrArg (World.drewN _) (Nat.add_assoc _ _ _))⟩))); try go_wp2_with (first | (go_at_call 81; (with_reducible refine (tenetref24_less.calls k3 _ _ ((rd_T60 l0 (ji17)).f1) _ _ ((rd_T60 l0 x3_1).f1) true _ ?side1 ?side2 ?side3 ?side4 A22.out).mono ?_); (case side1 => repeat (first | exact HR238_1.out | (with_reducible refine Kd.C_alloc ?_ _) | (with_reducible refine Kd.C_drewN ?_ _) | (with_reducible refine Kd.C_drew ?_))); (case side2 => exact HC238_1.out); (case side3 => repeat (first | exact HR239_1.out | (with_reducible refine Kd.C_alloc ?_ _) | (with_reducible refine Kd.C_drewN ?_ _) | (with_reducible refine Kd.C_drew ?_))); (case side4 => exact HC239_1.out); rintro e w' ⟨rfl, ⟨nd, rfl⟩⟩; (try first | exact ⟨rfl, _, World.drewN_drewN _ _ _⟩ | exact ⟨rfl, _, Eq.trans (World.drewN_drewN _ _ _) (congrArg (World.drewN _) (Nat.add_assoc _ _ _))⟩))))
                 go_roundg k3
                 case measure => have := HK1.out; have := HJ3.out; have := HK3.out; omega
                 case rel => exact ⟨(wrap64 (x3_1 + 1)), (by first | rfl | (simp; done) | (simp [*]; done)), H', ⟨by have := HK1.out; have := HJ3.out; have := HK3.out; omega⟩, by repeat (first | exact Drawn0.refl _ | apply Drawn0.step)⟩
                ·replace c23 := Bool.eq_false_iff.mpr c23
                 subst c23
                 have H1 : (some false) = some r := by rw [if_neg (show ¬ (false = true) by decide)] at H; exact H
                 clear H
                 have H := H1
                 clear H1
                 obtain rfl := Option.some.inj H
                 have p238 : 0 ≤ ((ji17) : Int) := of_decide_eq_true (by first | (with_reducible assumption) | assumption)
                 have q238 : (ji17) < (l0.length : Int) := of_decide_eq_true (by first | (with_reducible assumption) | assumption)
                 obtain ⟨ad238, A238_1, c238_1, e238, hx238_0, hx238_1, hl238_1, hi238_1⟩ := at_T60 HR0.out (ji17) p238 q238
                 cases e238
                 have HR238_1 := Aside0.mk hi238_1
                 have HC238_1 := Aside0.mk hl238_1
                 clear hi238_1 hl238_1
                 replace p238 := eq_true p238
                 replace q238 := eq_true q238
                 have p239 : 0 ≤ (x3_1 : Int) := of_decide_eq_true (by first | (with_reducible assumption) | assumption)
                 have q239 : x3_1 < (l0.length : Int) := of_decide_eq_true (by first | (with_reducible assumption) | assumption)
                 obtain ⟨ad239, A239_1, c239_1, e239, hx239_0, hx239_1, hl239_1, hi239_1⟩ := at_T60 HR0.out x3_1 p239 q239
                 obtain rfl : ad238 = ad239 := (by injection e239)
                 have HR239_1 := Aside0.mk hi239_1
                 have HC239_1 := Aside0.mk hl239_1
                 clear hi239_1 hl239_1
                 replace p239 := eq_true p239
                 replace q239 := eq_true q239
                 go_wp2_with (first | (go_at_call 81; (with_reducible refine (tenetref24_less.calls k3 _ _ ((rd_T60 l0 (ji17)).f1) _ _ ((rd_T60 l0 x3_1).f1) false _ ?side1 ?side2 ?side3 ?side4 A22.out).mono ?_); (case side1 => repeat (first | exact HR238_1.out | (with_reducible refine Kd.C_alloc ?_ _) | (with_reducible refine Kd.C_drewN ?_ _) | (with_reducible refine Kd.C_drew ?_))); (case side2 => exact HC238_1.out); (case side3 => repeat (first | exact HR239_1.out | (with_reducible refine Kd.C_alloc ?_ _) | (with_reducible refine Kd.C_drewN ?_ _) | (with_reducible refine Kd.C_drew ?_))); (case side4 => exact HC239_1.out); rintro e w' ⟨rfl, ⟨nd, rfl⟩⟩; (try first | exact ⟨rfl, _, World.drewN_drewN _ _ _⟩ | exact ⟨rfl, _, Eq.trans (World.drewN_drewN _ _ _) (congrArg (World.drewN _) (Nat.add_assoc _ _ _))⟩)))
                 repeat (go_quiet (first | (go_at_call 81; (with_reducible refine (tenetref24_less.calls k3 _ _ ((rd_T60 l0 (ji17)).f1) _ _ ((rd_T60 l0 x3_1).f1) false _ ?side1 ?side2 ?side3 ?side4 A22.out).mono ?_); (case side1 => repeat (first | exact HR238_1.out | (with_reducible refine Kd.C_alloc ?_ _) | (with_reducible refine Kd.C_drewN ?_ _) | (with_reducible refine Kd.C_drew ?_))); (case side2 => exact HC238_1.out); (case side3 => repeat (first | exact HR239_1.out | (with_reducible refine Kd.C_alloc ?_ _) | (with_reducible refine Kd.C_drewN ?_ _) | (with_reducible refine Kd.C_drew ?_))); (case side4 => exact HC239_1.out); rintro e w' ⟨rfl, ⟨nd, rfl⟩⟩; (try first | exact ⟨rfl, _, World.drewN_drewN _ _ _⟩ | exact ⟨rfl, _, Eq.trans (World.drewN_drewN _ _ _) (congrArg (World.drewN _) (Nat.add_assoc _ _ _))⟩))); try go_wp2_with (first | (go_at_call 81; (with_reducible refine (tenetref24_less.calls k3 _ _ ((rd_T60 l0 (ji17)).f1) _ _ ((rd_T60 l0 x3_1).f1) false _ ?side1 ?side2 ?side3 ?side4 A22.out).mono ?_); (case side1 => repeat (first | exact HR238_1.out | (with_reducible refine Kd.C_alloc ?_ _) | (with_reducible refine Kd.C_drewN ?_ _) | (with_reducible refine Kd.C_drew ?_))); (case side2 => exact HC238_1.out); (case side3 => repeat (first | exact HR239_1.out | (with_reducible refine Kd.C_alloc ?_ _) | (with_reducible refine Kd.C_drewN ?_ _) | (with_reducible refine Kd.C_drew ?_))); (case side4 => exact HC239_1.out); rintro e w' ⟨rfl, ⟨nd, rfl⟩⟩; (try first | exact ⟨rfl, _, World.drewN_drewN _ _ _⟩ | exact ⟨rfl, _, Eq.trans (World.drewN_drewN _ _ _) (congrArg (World.drewN _) (Nat.add_assoc _ _ _))⟩))))
                 go_ret
                 exact ⟨by first | rfl | (simp; done) | (simp only [← hji17] <;> (first | rfl | simp)) | (simp [*]; done), by repeat (first | exact Drawn0.refl _ | apply Drawn0.step)⟩
               ·rw [if_neg c21] at H
                exact absurd H (by simp)
              ·rw [if_neg c20] at H
               exact absurd H (by simp)
             ·rw [if_neg c19] at H
              exact absurd H (by simp)
            ·rw [if_neg c18] at H
             exact absurd H (by simp)
           ·rw [if_neg c16] at H
            have c16b0 : decide (0 < x3_1) = false := decide_eq_false c16
            clear c16
            have H' := Aside0.mk H
            clear H
            go_wp2
            repeat (go_quiet (fail); try go_wp2)
            go_roundg k3
            case measure => have := HK1.out; have := HJ3.out; have := HK3.out; omega
            case rel => exact ⟨(wrap64 (x3_1 + 1)), (by first | rfl | (simp; done) | (simp [*]; done)), H', ⟨by have := HK1.out; have := HJ3.out; have := HK3.out; omega⟩, by repeat (first | exact Drawn0.refl _ | apply Drawn0.step)⟩
    ·rw [if_neg c3] at H
     have c3b0 : decide (x3_1 < (l0.length : Int)) = false := decide_eq_false c3
     clear c3
     obtain rfl := Option.some.inj H
     go_wp2
     repeat (go_quiet (fail); try go_wp2)
     go_ret
     exact ⟨by first | rfl | (simp; done) | (simp [*]; done), by repeat (first | exact Drawn0.refl _ | apply Drawn0.step)⟩
end Go.Proofs.Ythkclagcbjnckaa.Pa

namespace Go.Proofs.Ythkclagcbjnckaa.Pa
open Go.RowKit Go.Proofs.RawMap Go.Proofs.YthkclagcbjnckaaW.PrintWords Go.Proofs.YthkclagcbjnckaaW.PrintLast Go.Proofs.YthkclagcbjnckaaW.PrintMore
def lexC : List Int → List Int → Int
  | [], [] => 0
  | [], _ :: _ => -1
  | _ :: _, [] => 1
  | a :: x, b :: y => if a < b then -1 else if b < a then 1 else lexC x y
theorem rdI_mid (pre : List Int) (y : Int) (r : List Int) : rd (pre ++ y :: r) (pre.length : Int) = y := by simp [rd]
theorem rdM_mid (pre : List S60) (y : S60) (r : List S60) : rd_T60 (pre ++ y :: r) (pre.length : Int) = y := by simp [rd_T60]
theorem less_ev (a b : List Int) (ha : a.length = 8) (hb : b.length = 8) : Ev (fun k => tenetref24_less.f k a b) (decide (lexC a b > 0)) := by
  have loop : ∀ (ra pa rb pb : List Int), a = pa ++ ra → b = pb ++ rb → pa.length = pb.length → Ev (fun k => tenetref24_less.l0 k a b (pa.length : Int)) (decide (lexC ra rb > 0)) := by
    intro ra
    induction ra with
    | nil =>
      intro pa rb pb h1 h2 h3
      rw [List.append_nil] at h1
      have : rb = [] := by
        cases rb with
        | nil => rfl
        | cons y rb => rw [h2, List.length_append, List.length_cons, ← h3, ← h1] at hb; omega
      subst this
      refine Ev.step (f := fun _ => some false) (fun k => ?_) (Ev.now _)
      simp only [tenetref24_less.l0]
      rw [if_neg (by rw [← h1]; omega)]
    | cons x ra ih =>
      intro pa rb pb h1 h2 h3
      cases rb with
      | nil => rw [h2, List.append_nil] at hb; rw [h1, List.length_append, List.length_cons] at ha; omega
      | cons y rb =>
        have e1 : rd a (pa.length : Int) = x := by rw [h1]; exact rdI_mid _ _ _
        have e2 : rd b (pa.length : Int) = y := by rw [h2, h3]; exact rdI_mid _ _ _
        have hl1 : pa.length < a.length := by rw [h1]; simp
        have hl2 : pa.length < b.length := by rw [h2, h3]; simp
        by_cases hxy : x = y
        · have h := ih (pa ++ [x]) rb (pb ++ [y]) (by rw [h1]; simp) (by rw [h2]; simp) (by simp [h3])
          refine Ev.step (f := fun k => tenetref24_less.l0 k a b (wrap64 ((pa.length : Int) + 1))) (fun k => ?_) ?_
          · simp only [tenetref24_less.l0]
            rw [if_pos (by omega), if_pos (by omega), if_pos (by omega), if_pos (by omega), e1, e2, if_pos hxy]
          · rw [wrap_succ _ (by omega)]
            rw [List.length_append, List.length_singleton] at h
            have e : lexC (x :: ra) (y :: rb) = lexC ra rb := by rw [lexC, if_neg (by omega), if_neg (by omega)]
            rw [e]
            exact h
        · refine Ev.step (f := fun _ => some (decide (x > y))) (fun k => ?_) ?_
          · simp only [tenetref24_less.l0]
            rw [if_pos (by omega), if_pos (by omega), if_pos (by omega), if_pos (by omega), e1, e2, if_neg hxy]
          · have e : decide (lexC (x :: ra) (y :: rb) > 0) = decide (x > y) := by
              rw [lexC]
              by_cases h : x < y
              · rw [if_pos h, decide_eq_decide]; omega
              · rw [if_neg h, if_pos (by omega), decide_eq_decide]; omega
            rw [e]
            exact Ev.now _
  refine Ev.congr (fun k => ?_) (loop a [] b [] rfl rfl rfl)
  simp only [tenetref24_less.f]; rfl
theorem cmp_ev (a b : List Int) (hla : a.length ≤ 1000) : Ev (fun k => slices_Compare_int_int.f k a b) (lexC a b) := by
  have loop : ∀ (ra pa rb pb : List Int), a = pa ++ ra → b = pb ++ rb → pa.length = pb.length → Ev (fun k => slices_Compare_int_int.l0 k a b a (a.length : Int) (pa.length : Int)) (lexC ra rb) := by
    intro ra
    induction ra with
    | nil =>
      intro pa rb pb h1 h2 h3
      rw [List.append_nil] at h1
      refine Ev.step (f := fun _ => some (lexC [] rb)) (fun k => ?_) (Ev.now _)
      simp only [slices_Compare_int_int.l0]
      rw [if_neg (by rw [← h1]; omega)]
      cases rb with
      | nil => rw [if_neg (by rw [h1, h2, List.append_nil, h3]; omega), lexC]
      | cons y rb => rw [if_pos (by rw [h1, h2, List.length_append, List.length_cons, h3]; omega), lexC]
    | cons x ra ih =>
      intro pa rb pb h1 h2 h3
      have hl1 : pa.length < a.length := by rw [h1]; simp
      have e1 : rd a (pa.length : Int) = x := by rw [h1]; exact rdI_mid _ _ _
      cases rb with
      | nil =>
        refine Ev.step (f := fun _ => some 1) (fun k => ?_) (by rw [lexC]; exact Ev.now _)
        simp only [slices_Compare_int_int.l0]
        rw [if_pos (by omega), if_pos (by omega), if_pos (by omega), if_pos (by rw [h2, List.append_nil, h3]; omega)]
      | cons y rb =>
        have hl2 : pa.length < b.length := by rw [h2, h3]; simp
        have e2 : rd b (pa.length : Int) = y := by rw [h2, h3]; exact rdI_mid _ _ _
        have h := ih (pa ++ [x]) rb (pb ++ [y]) (by rw [h1]; simp) (by rw [h2]; simp) (by simp [h3])
        rw [List.length_append, List.length_singleton] at h
        refine Ev.step (f := fun k => if x < y then some (-1) else if x > y then some 1 else slices_Compare_int_int.l0 k a b a (a.length : Int) (wrap64 ((pa.length : Int) + 1))) (fun k => ?_) ?_
        · simp only [slices_Compare_int_int.l0]
          rw [if_pos (by omega), if_pos (by omega), if_pos (by omega), if_neg (by omega), if_pos (by omega), e1, e2]
          simp only [cmp_Compare_int.f, cmp_isNaN_int.f, Option.bind_some, bne_self_eq_false, Bool.false_eq_true, if_false]
          by_cases h1 : x < y
          · simp [h1]
          · by_cases h2 : x > y <;> simp [h1, h2]
        · rw [wrap_succ _ (by omega), lexC]
          by_cases hxy : x < y
          · simp only [if_pos hxy]; exact Ev.now _
          · by_cases hyx : x > y
            · simp only [if_neg hxy, if_pos hyx]; exact Ev.now _
            · simp only [if_neg hxy, if_neg hyx]; exact h
  refine Ev.congr (fun k => ?_) (loop a [] b [] rfl rfl rfl)
  simp only [slices_Compare_int_int.f]; rfl
def monoB (m : S60) : Bool := decide (1 ≤ m.f0) && decide (m.f0 ≤ 1000000000000000) && decide (m.f1.length = 8)
def expsB (m : S60) : Bool := m.f1.all fun n => decide (0 ≤ n) && decide (n ≤ 60)
def behindB : Option (List Int) → S60 → Bool
  | none, _ => true
  | some p, m => decide (lexC p m.f1 > 0)
def isR : Option (List Int) → List S60 → Bool
  | _, [] => true
  | p, m :: r => monoB m && (behindB p m && (expsB m && isR (some m.f1) r))
def isB (l : List S60) : Bool := decide (l.length ≤ 200) && isR none l
theorem expsB_no {m : S60} {pre r : List Int} {n : Int} (h : m.f1 = pre ++ n :: r) (hn : ¬ (0 ≤ n ∧ n ≤ 60)) : expsB m = false := by
  unfold expsB
  rw [h, List.all_append, List.all_cons]
  have : (decide (0 ≤ n) && decide (n ≤ 60)) = false := by
    rw [Bool.and_eq_false_iff]
    by_cases h0 : 0 ≤ n
    · exact .inr (decide_eq_false fun h1 => hn ⟨h0, h1⟩)
    · exact .inl (decide_eq_false h0)
  rw [this]; simp
theorem Is_ev (l : List S60) : Ev (fun k => tenetref24_Is.f k l) (isB l) := by
  by_cases hl : l.length ≤ 200
  case neg =>
    refine Ev.congr (f := fun _ => some (isB l)) (fun k => ?_) (Ev.now _)
    simp only [tenetref24_Is.f]
    rw [if_pos (by omega)]
    unfold isB
    rw [decide_eq_false hl]; rfl
  have hend : ∀ (m : S60) (r pre : List S60), l = pre ++ m :: r → m.f1.length = 8 →
      Ev (fun k => tenetref24_Is.l0 k l (wrap64 ((pre.length : Int) + 1))) (isR (some m.f1) r) →
      (∀ p, pre.getLast? = some p → p.f1.length = 8) →
      ∀ (re pe : List Int), m.f1 = pe ++ re → (pe.all fun n => decide (0 ≤ n) && decide (n ≤ 60)) = true →
        Ev (fun k => tenetref24_Is.l1 k l (pre.length : Int) (pe.length : Int)) (behindB ((pre.getLast?).map (·.f1)) m && (expsB m && isR (some m.f1) r)) := by
    intro m r pre hp h8 hnext hpre re
    have hll : pre.length < l.length := by rw [hp]; simp
    have em : rd_T60 l (pre.length : Int) = m := by rw [hp]; exact rdM_mid _ _ _
    induction re with
    | nil =>
      intro pe he hall
      rw [List.append_nil] at he
      have hx : expsB m = true := by unfold expsB; rw [he]; exact hall
      rw [hx, Bool.true_and]
      rcases List.eq_nil_or_concat pre with rfl | ⟨pre', q, rfl⟩
      · refine Ev.step (f := fun k => tenetref24_Is.l0 k l (wrap64 ((([] : List S60).length : Int) + 1))) (fun k => ?_) ?_
        · simp only [tenetref24_Is.l1]
          rw [if_neg (by rw [← he]; omega), if_neg (by simp)]
        · simpa [behindB] using hnext
      · have hq8 : q.f1.length = 8 := hpre q (by simp)
        have eq_ : rd_T60 l (pre'.length : Int) = q := by
          rw [hp]; simp only [List.concat_eq_append, List.append_assoc, List.singleton_append]; exact rdM_mid _ _ _
        have ew : wrap64 (((pre'.concat q).length : Int) - 1) = (pre'.length : Int) := by
          rw [show (((pre'.concat q).length : Nat) : Int) - 1 = ((pre'.length : Nat) : Int) by simp]
          exact wrap_nat _ (by simp at hll; omega)
        have hl1 : (pre'.concat q).length = pre'.length + 1 := by simp
        refine Ev.step (f := fun k => (tenetref24_less.f k q.f1 m.f1).bind fun t => if t = true then tenetref24_Is.l0 k l (wrap64 (((pre'.concat q).length : Int) + 1)) else some false) (fun k => ?_) ?_
        · simp only [tenetref24_Is.l1]
          rw [if_neg (by rw [← he]; omega), if_pos (by omega), ew, if_pos (by omega), if_pos (by omega), if_pos (by omega), if_pos (by omega), eq_, em]
        · refine Ev.bind (less_ev q.f1 m.f1 hq8 h8) ?_
          have hb : behindB (((pre'.concat q).getLast?).map (·.f1)) m = decide (lexC q.f1 m.f1 > 0) := by simp [behindB]
          rw [hb]
          by_cases hc : lexC q.f1 m.f1 > 0
          · simp only [decide_eq_true hc, if_true, Bool.true_and]; exact hnext
          · simp only [decide_eq_false hc, Bool.false_and, Bool.false_eq_true, if_false]; exact Ev.now _
    | cons n re ih =>
      intro pe he hall
      have hlt : pe.length < m.f1.length := by rw [he]; simp
      have en : rd m.f1 (pe.length : Int) = n := by rw [he]; exact rdI_mid _ _ _
      by_cases hn : 0 ≤ n ∧ n ≤ 60
      · have h := ih (pe ++ [n]) (by rw [he]; simp) (by rw [List.all_append, hall]; simp [hn.1, hn.2])
        rw [List.length_append, List.length_singleton] at h
        refine Ev.step (f := fun k => tenetref24_Is.l1 k l (pre.length : Int) (wrap64 ((pe.length : Int) + 1))) (fun k => ?_) ?_
        · simp only [tenetref24_Is.l1]
          rw [if_pos (by omega), if_pos (by omega), if_pos (by omega), if_pos (by omega), em, if_pos (by omega), en, if_neg (by omega), if_neg (by omega)]
        · rw [wrap_succ _ (by omega)]; exact h
      · have hx := expsB_no he hn
        refine Ev.step (f := fun _ => some false) (fun k => ?_) (by rw [hx, Bool.false_and, Bool.and_false]; exact Ev.now _)
        simp only [tenetref24_Is.l1]
        rw [if_pos (by omega), if_pos (by omega), if_pos (by omega), if_pos (by omega), em, if_pos (by omega), en]
        by_cases h0 : n < 0
        · rw [if_pos h0]
        · rw [if_neg h0, if_pos (by omega)]
  have loop : ∀ (r pre : List S60), l = pre ++ r → (∀ p, pre.getLast? = some p → p.f1.length = 8) → Ev (fun k => tenetref24_Is.l0 k l (pre.length : Int)) (isR ((pre.getLast?).map (·.f1)) r) := by
    intro r
    induction r with
    | nil =>
      intro pre hp _
      rw [List.append_nil] at hp
      refine Ev.step (f := fun _ => some true) (fun k => ?_) (by rw [isR]; exact Ev.now _)
      simp only [tenetref24_Is.l0]
      rw [if_neg (by rw [hp]; omega)]
    | cons m r ih =>
      intro pre hp hpre
      have hll : pre.length < l.length := by rw [hp]; simp
      have em : rd_T60 l (pre.length : Int) = m := by rw [hp]; exact rdM_mid _ _ _
      rw [isR]
      refine Ev.step (f := fun k => tenetref24_Is.j1 k l (pre.length : Int) (!monoB m)) (fun k => ?_) ?_
      · simp only [tenetref24_Is.l0]
        rw [if_pos (by omega), if_pos (by omega), em]
        unfold monoB
        by_cases h1 : m.f0 < 1
        · rw [if_pos h1, decide_eq_false (by omega)]; rfl
        · rw [if_neg h1, decide_eq_true (show 1 ≤ m.f0 by omega)]
          by_cases h2 : m.f0 > 1000000000000000
          · rw [if_pos h2, decide_eq_false (by omega)]; rfl
          · rw [if_neg h2, decide_eq_true (show m.f0 ≤ 1000000000000000 by omega)]
            by_cases h8 : m.f1.length = 8
            · simp [h8]
            · have : ((m.f1.length : Int) != 8) = true := by rw [bne_iff_ne]; omega
              simp [h8, this]
      · by_cases hm : monoB m = true
        · have h8 : m.f1.length = 8 := by unfold monoB at hm; simp at hm; exact hm.2
          have hnext := ih (pre ++ [m]) (by rw [hp]; simp) (fun p hp' => by simp at hp'; rw [← hp']; exact h8)
          simp only [List.length_append, List.length_singleton, List.getLast?_append, List.getLast?_singleton, Option.some_or, Option.map_some] at hnext
          rw [← wrap_succ _ (by omega)] at hnext
          have h := hend m r pre hp h8 hnext hpre m.f1 [] rfl rfl
          refine Ev.step (f := fun k => tenetref24_Is.l1 k l (pre.length : Int) 0) (fun k => ?_) (by rw [hm, Bool.true_and]; exact h)
          simp only [tenetref24_Is.j1]
          rw [hm]; rfl
        · rw [Bool.not_eq_true] at hm
          refine Ev.step (f := fun _ => some false) (fun k => ?_) (by rw [hm, Bool.false_and]; exact Ev.now _)
          simp only [tenetref24_Is.j1]
          rw [hm]; rfl
  refine Ev.congr (fun k => ?_) (by have := loop l [] rfl (by simp); unfold isB; rw [decide_eq_true hl, Bool.true_and]; exact this)
  simp only [tenetref24_Is.f]
  rw [if_neg (by omega)]; rfl
end Go.Proofs.Ythkclagcbjnckaa.Pa

namespace Go.Proofs.Ythkclagcbjnckaa.Pa
open Go.RowKit Go.Proofs.YthkclagcbjnckaaW.PrintWords Go.Proofs.YthkclagcbjnckaaW.PrintLast Go.Proofs.YthkclagcbjnckaaW.PrintMore
def t3 (x : S27) : Int × Int × List S27 := (x.f0, x.f1, x.f2)
def varsF : Int → List Int → List S27
  | _, [] => []
  | i, n :: r => List.replicate n.toNat ⟨2, i, []⟩ ++ varsF (i + 1) r
def two4 (x y : S27) : S27 := ⟨4, 0, [x, y]⟩
def prodT (parts : List S27) : S27 := match parts with | [] => ⟨0, 0, []⟩ | p :: r => r.foldl two4 p
def partsT (m : S60) : List S27 := if m.f0 > 1 then ⟨1, m.f0, []⟩ :: varsF 0 m.f1 else if varsF 0 m.f1 = [] then [⟨1, m.f0, []⟩] else varsF 0 m.f1
theorem prod_inner (l : List Int) (f0 : Int) (res : Int × Int × List S27) (i : Nat) (n : Nat) (hi : i < l.length) (hn : rd l (i : Int) = n) (hb : n ≤ 1000) : ∀ (d j : Nat) (parts : List S27), j + d = n → parts.length + d ≤ 1000000 →
    Ev (fun k => tenetref24_product.l0 k (parts ++ List.replicate d ⟨2, (i : Int), []⟩) (wrap64 ((i : Int) + 1)) f0 l) res → Ev (fun k => tenetref24_product.l1 k parts (i : Int) (j : Int) f0 l) res := by
  intro d
  induction d with
  | zero =>
    intro j parts hj _ h
    refine Ev.step (fun k => ?_) h
    simp only [tenetref24_product.l1]
    rw [if_pos (by omega), if_pos (by omega), hn, if_neg (by omega)]
    simp
  | succ d ih =>
    intro j parts hj hp h
    refine Ev.step (f := fun k => tenetref24_product.l1 k (parts ++ [(⟨2, (i : Int), []⟩ : S27)]) (i : Int) (wrap64 ((j : Int) + 1)) f0 l) (fun k => ?_) ?_
    · simp only [tenetref24_product.l1]
      rw [if_pos (by omega), if_pos (by omega), hn, if_pos (by omega), if_pos (by omega)]
    · rw [wrap_succ j (by omega)]
      refine ih (j + 1) _ (by omega) (by simp; omega) ?_
      rw [List.append_assoc, show [(⟨2, (i : Int), []⟩ : S27)] ++ List.replicate d ⟨2, (i : Int), []⟩ = List.replicate (d + 1) ⟨2, (i : Int), []⟩ by simp [List.replicate_succ]]
      exact h
theorem varsF_len : ∀ (i : Int) (l : List Int), (∀ x ∈ l, 0 ≤ x ∧ x ≤ 60) → (varsF i l).length ≤ 60 * l.length
  | _, [], _ => by simp [varsF]
  | i, n :: r, h => by
    have h1 := h n (by simp)
    have := varsF_len (i + 1) r (fun x hx => h x (by simp [hx]))
    simp only [varsF, List.length_append, List.length_replicate, List.length_cons]
    omega
theorem prod_outer (l : List Int) (h8 : l.length = 8) (hx : ∀ x ∈ l, 0 ≤ x ∧ x ≤ 60) (f0 : Int) (res : Int × Int × List S27) : ∀ (r pre : List Int) (parts : List S27), l = pre ++ r → parts.length + 60 * r.length ≤ 1000 →
    Ev (fun k => tenetref24_product.l0 k (parts ++ varsF (pre.length : Int) r) 8 f0 l) res → Ev (fun k => tenetref24_product.l0 k parts (pre.length : Int) f0 l) res := by
  intro r
  induction r with
  | nil =>
    intro pre parts hp _ h
    rw [List.append_nil] at hp
    have e : (pre.length : Int) = 8 := by rw [← hp]; omega
    rw [e] at h ⊢
    simpa [varsF] using h
  | cons n r ih =>
    intro pre parts hp hl h
    have hlt : pre.length < l.length := by rw [hp]; simp
    have hn := hx n (by rw [hp]; simp)
    have en : rd l (pre.length : Int) = (n.toNat : Int) := by rw [hp, rdI_mid]; omega
    refine Ev.step (f := fun k => tenetref24_product.l1 k parts (pre.length : Int) ((0 : Nat) : Int) f0 l) (fun k => ?_) ?_
    · simp only [tenetref24_product.l0]
      rw [if_pos (by omega)]; rfl
    · simp only [List.length_cons] at hl
      refine prod_inner l f0 res pre.length n.toNat hlt en (by omega) n.toNat 0 parts (by omega) (by omega) ?_
      rw [wrap_succ _ (by omega)]
      have := ih (pre ++ [n]) (parts ++ List.replicate n.toNat ⟨2, (pre.length : Int), []⟩) (by rw [hp]; simp) (by simp; omega)
      simp only [List.length_append, List.length_singleton] at this
      refine this ?_
      rw [varsF] at h
      rw [List.append_assoc]
      push_cast
      exact h
theorem rdS_mid (pre r : List S27) (y : S27) : rd_T27 (pre ++ y :: r) (pre.length : Int) = y := rd_mid pre r y
theorem prod_fold (l : List S27) (hl : l.length ≤ 1000000) : ∀ (r pre : List S27) (a : S27), l = pre ++ r → Ev (fun k => tenetref24_product.l2 k l (pre.length : Int) a.f0 a.f1 a.f2) (t3 (r.foldl two4 a)) := by
  intro r
  induction r with
  | nil =>
    intro pre a hp
    rw [List.append_nil] at hp
    refine Ev.step (f := fun _ => some (t3 a)) (fun k => ?_) (Ev.now _)
    simp only [tenetref24_product.l2]
    rw [if_neg (by rw [hp]; omega)]; rfl
  | cons y r ih =>
    intro pre a hp
    have hlt : pre.length < l.length := by rw [hp]; simp
    have ey : rd_T27 l (pre.length : Int) = y := by rw [hp]; exact rdS_mid _ _ _
    have h := ih (pre ++ [y]) (two4 a y) (by rw [hp]; simp)
    rw [List.length_append, List.length_singleton] at h
    refine Ev.step (f := fun k => tenetref24_product.l2 k l (wrap64 ((pre.length : Int) + 1)) (two4 a y).f0 (two4 a y).f1 (two4 a y).f2) (fun k => ?_) ?_
    · simp only [tenetref24_product.l2]
      rw [if_pos (by omega), if_pos (by omega), ey]
      simp only [tenetref24_Two.f, Option.bind_some]
      cases a; cases y; rfl
    · rw [wrap_succ _ (by omega)]
      exact h
theorem prod_j3 (parts : List S27) (hp : parts ≠ []) (hl : parts.length ≤ 1000000) : Ev (fun k => tenetref24_product.j3 k parts) (t3 (prodT parts)) := by
  cases parts with
  | nil => exact absurd rfl hp
  | cons p r =>
    have h := prod_fold (p :: r) hl r [p] p rfl
    refine Ev.step (f := fun k => tenetref24_product.l2 k (p :: r) (([p] : List S27).length : Int) p.f0 p.f1 p.f2) (fun k => ?_) h
    simp only [tenetref24_product.j3]
    rw [if_pos (by simp), show rd_T27 (p :: r) 0 = p from rfl]; rfl
theorem product_ev (m : S60) (h8 : m.f1.length = 8) (hx : ∀ x ∈ m.f1, 0 ≤ x ∧ x ≤ 60) : Ev (fun k => tenetref24_product.f k m.f0 m.f1) (t3 (prodT (partsT m))) := by
  have hvl := varsF_len 0 m.f1 hx
  rw [h8] at hvl
  have hT : ∀ vs : List S27, vs.length ≤ 480 → Ev (fun k => tenetref24_product.j2 k vs true m.f0 m.f1) (t3 (prodT (⟨1, m.f0, []⟩ :: vs))) := by
    intro vs hv
    refine Ev.step (f := fun k => tenetref24_product.j3 k (⟨1, m.f0, []⟩ :: vs)) (fun k => ?_) (prod_j3 _ (by simp) (by simp; omega))
    simp only [tenetref24_product.j2]
    rw [if_pos trivial]
    simp only [tenetref24_Num.f, Option.bind_some]
    rw [if_pos (by simp; omega)]; rfl
  refine Ev.congr (f := fun k => tenetref24_product.l0 k [] (([] : List Int).length : Int) m.f0 m.f1) (fun k => rfl) ?_
  refine prod_outer m.f1 h8 hx m.f0 _ m.f1 [] [] rfl (by simp; omega) ?_
  rw [List.nil_append]
  unfold partsT
  by_cases h1 : m.f0 > 1
  · rw [if_pos h1]
    refine Ev.step (f := fun k => tenetref24_product.j2 k (varsF 0 m.f1) true m.f0 m.f1) (fun k => ?_) (hT _ (by omega))
    simp only [tenetref24_product.l0]
    rw [if_neg (by omega), if_pos h1]; rfl
  · rw [if_neg h1]
    by_cases h2 : varsF 0 m.f1 = []
    · rw [if_pos h2]
      refine Ev.step (f := fun k => tenetref24_product.j2 k [] true m.f0 m.f1) (fun k => ?_) (hT [] (by simp))
      simp only [tenetref24_product.l0]
      rw [if_neg (by omega), if_neg h1]
      rw [show varsF ((([] : List Int).length : Nat) : Int) m.f1 = [] from h2]; rfl
    · rw [if_neg h2]
      refine Ev.step (f := fun k => tenetref24_product.j2 k (varsF 0 m.f1) false m.f0 m.f1) (fun k => ?_) ?_
      · simp only [tenetref24_product.l0]
        rw [if_neg (by omega), if_neg h1]
        have : (((varsF 0 m.f1).length : Int) == 0) = false := by
          rw [beq_eq_false_iff_ne]
          have := List.length_pos_iff.2 h2
          omega
        rw [show ((([] : List Int).length : Nat) : Int) = 0 from rfl, this]
      · refine Ev.step (f := fun k => tenetref24_product.j3 k (varsF 0 m.f1)) (fun k => ?_) (prod_j3 _ h2 (by omega))
        simp only [tenetref24_product.j2]
        rw [if_neg (by simp)]
end Go.Proofs.Ythkclagcbjnckaa.Pa

namespace Go.Proofs.Ythkclagcbjnckaa.Pa
set_option linter.unusedVariables false
set_option linter.unusedSimpArgs false
open Go.RowKit Go.Proofs.RawMap Go.Proofs.YthkclagcbjnckaaW.PrintWords Go.Proofs.YthkclagcbjnckaaW.PrintLast Go.Proofs.YthkclagcbjnckaaW.PrintMore
theorem lexC_self : ∀ a : List Int, lexC a a = 0
  | [] => rfl
  | a :: x => by rw [lexC, if_neg (by omega), if_neg (by omega)]; exact lexC_self x
theorem lexC_trans : ∀ {a b c : List Int}, lexC a b > 0 → lexC b c > 0 → lexC a c > 0
  | [], [], _, h, _ => by simp [lexC] at h
  | [], _ :: _, _, h, _ => by simp [lexC] at h
  | _ :: _, [], [], _, h => by simp [lexC] at h
  | _ :: _, [], _ :: _, _, h => by simp [lexC] at h
  | _ :: _, _ :: _, [], _, _ => by simp [lexC]
  | a :: x, b :: y, c :: z, h1, h2 => by
    rw [lexC] at h1 h2 ⊢
    by_cases hab : a < b
    · rw [if_pos hab] at h1; omega
    · by_cases hbc : b < c
      · rw [if_pos hbc] at h2; omega
      · rw [if_neg (by omega)]
        by_cases hca : c < a
        · rw [if_pos hca]; omega
        · have e1 : a = b := by omega
          have e2 : b = c := by omega
          subst e1; subst e2
          rw [if_neg (by omega)]
          rw [if_neg (by omega), if_neg (by omega)] at h1 h2
          exact lexC_trans h1 h2
theorem cmp_c (A1 : Option Addr) (c1 : Nat) (a : List Int) (A2 : Option Addr) (c2 : Nat) (b : List Int) (w : World) (hr0 : (Kd.int .i64).C w A1 a.length a) (hc0 : a.length ≤ c1) (hr1 : (Kd.int .i64).C w A2 b.length b) (hc1 : b.length ≤ c2) (hla : a.length ≤ 1000) :
    Calls Try.prog 80 #[.slice A1 a.length c1, .slice A2 b.length c2] w fun e w' => e = .returned (.int .i64 (lexC a b)) ∧ Drawn0 w w' := by
  obtain ⟨k, hk⟩ := (cmp_ev a b hla).rounds
  exact slices_Compare_int_int.calls k A1 c1 a A2 c2 b _ w hr0 hc0 hr1 hc1 hk
def pairOf (m : S60) : List Int × Int := (m.f1, m.f0)
theorem expsB_at {m : S60} {j : Nat} (hj : j < m.f1.length) (h : ¬ (0 ≤ rd m.f1 (j : Int) ∧ rd m.f1 (j : Int) ≤ 60)) : expsB m = false := by
  have e : m.f1 = m.f1.take j ++ m.f1[j] :: m.f1.drop (j + 1) := by rw [← List.drop_eq_getElem_cons hj, List.take_append_drop]
  refine expsB_no e ?_
  have : rd m.f1 (j : Int) = m.f1[j] := by simp [rd, List.getD_eq_getElem?_getD, List.getElem?_eq_getElem hj]
  rw [← this]; exact h
theorem expsB_all {m : S60} (h : ∀ i : Nat, i < m.f1.length → 0 ≤ rd m.f1 (i : Int) ∧ rd m.f1 (i : Int) ≤ 60) : expsB m = true := by
  unfold expsB
  rw [List.all_eq_true]
  intro x hx
  obtain ⟨i, hi, rfl⟩ := List.getElem_of_mem hx
  have := h i hi
  rw [show rd m.f1 (i : Int) = m.f1[i] by simp [rd, List.getD_eq_getElem?_getD, List.getElem?_eq_getElem hi]] at this
  simp [this.1, this.2]
structure ReadLoop (w w' : World) (l : List S60) (k : Nat) (r : List S60) : Prop where
  split : ∃ pre, l = pre ++ r ∧ pre.length = k ∧ isR none l = isR (pre.getLast?.map (·.f1)) r ∧ PIs w' w.heap.size (pre.map pairOf) ∧
    (∀ q ∈ pre, q.f1.length = 8 ∧ expsB q = true ∧ 1 ≤ q.f0 ∧ q.f0 ≤ 1000000000000000) ∧
    (∀ q ∈ pre, ∀ x, (∀ z, pre.getLast? = some z → lexC z.f1 x > 0) → lexC q.f1 x > 0)
  below : Below w.heap.size w w'
theorem ReadLoop.at_ {w w' : World} {l : List S60} {k : Nat} {m : S60} {r : List S60} (h : ReadLoop w w' l k (m :: r)) : rd_T60 l (k : Int) = m := by
  obtain ⟨pre, h1, h2, _⟩ := h.split
  rw [h1, ← h2]; exact rdM_mid _ _ _
theorem ReadLoop.lt {w w' : World} {l : List S60} {k : Nat} {m : S60} {r : List S60} (h : ReadLoop w w' l k (m :: r)) : k < l.length := by
  obtain ⟨pre, h1, h2, _⟩ := h.split
  rw [h1, ← h2]; simp
theorem ReadLoop.len {w w' : World} {l : List S60} {k : Nat} (h : ReadLoop w w' l k []) : k = l.length := by
  obtain ⟨pre, h1, h2, _⟩ := h.split
  rw [h1, ← h2]; simp
theorem ReadLoop.start (w W : World) (l : List S60) (hm : PIs W w.heap.size []) (hb : Below w.heap.size w W) : ReadLoop w W l 0 l :=
  ⟨⟨[], rfl, rfl, rfl, hm, by simp, by simp⟩, hb⟩
theorem ReadLoop.done {w w' : World} {l : List S60} {k : Nat} (h : ReadLoop w w' l k []) (hl : l.length ≤ 200) : isB l = true ∧ PIs w' w.heap.size (l.map pairOf) := by
  obtain ⟨pre, h1, h2, h3, h4, _⟩ := h.split
  rw [List.append_nil] at h1
  subst h1
  exact ⟨by unfold isB; rw [h3, isR, decide_eq_true hl]; rfl, h4⟩
theorem ReadLoop.no1 {w w' : World} {l : List S60} {k : Nat} {m : S60} {r : List S60} (h : ReadLoop w w' l k (m :: r)) (hm : monoB m = false) : isB l = false := by
  obtain ⟨pre, h1, h2, h3, _⟩ := h.split
  unfold isB; rw [h3, isR, hm]; simp
theorem ReadLoop.no3 {w w' : World} {l : List S60} {k : Nat} {m : S60} {r : List S60} (h : ReadLoop w w' l k (m :: r)) (hm : expsB m = false) : isB l = false := by
  obtain ⟨pre, h1, h2, h3, _⟩ := h.split
  unfold isB; rw [h3, isR, hm]; simp
theorem ReadLoop.prev {w w' : World} {l : List S60} {k : Nat} {m : S60} {r : List S60} (h : ReadLoop w w' l k (m :: r)) (hk : 0 < k) :
    ∃ q, rd_T60 l ((k : Int) - 1) = q ∧ q.f1.length = 8 ∧ (lexC q.f1 m.f1 ≤ 0 → isB l = false) ∧ (lexC q.f1 m.f1 > 0 → ∀ pre, l = pre ++ m :: r → pre.length = k → ∀ z, pre.getLast? = some z → lexC z.f1 m.f1 > 0) := by
  obtain ⟨pre, h1, h2, h3, _, h5, _⟩ := h.split
  rcases List.eq_nil_or_concat pre with rfl | ⟨pre', q, rfl⟩
  · simp at h2; omega
  have hk1 : k = pre'.length + 1 := by rw [← h2]; simp
  refine ⟨q, ?_, (h5 q (by simp)).1, fun hc => ?_, fun hc pre hp hpl z hz => ?_⟩
  · rw [h1, hk1, show ((pre'.length + 1 : Nat) : Int) - 1 = (pre'.length : Int) by omega]
    simp only [List.concat_eq_append, List.append_assoc, List.singleton_append]
    exact rdM_mid _ _ _
  · unfold isB
    rw [h3, isR]
    have : behindB (((pre'.concat q).getLast?).map (·.f1)) m = false := by simp [behindB]; omega
    rw [this]; simp
  · have : pre = pre'.concat q := (List.append_inj (hp.symm.trans h1) (by rw [hpl, h2])).1
    subst this
    simp at hz
    rw [← hz]; exact hc
theorem grownN (w : World) (o : Obj) (n : Nat) : w.grownBy ((w.alloc o).drewN n).drew none := ⟨rfl, rfl, rfl, by simp [World.drew, World.drewN], fun i hi _ => Below.heap_alloc w _ i hi⟩
theorem ReadLoop.put {w w' W : World} {l : List S60} {k : Nat} {m : S60} {r : List S60} (h : ReadLoop w w' l k (m :: r)) (hm : 1 ≤ m.f0 ∧ m.f0 ≤ 1000000000000000 ∧ m.f1.length = 8) (he : expsB m = true)
    (hlex : ∀ pre, l = pre ++ m :: r → pre.length = k → ∀ z, pre.getLast? = some z → lexC z.f1 m.f1 > 0) (hW : w'.grownBy W none) :
    ∃ w1, (Instr.mapUpdate 63 (.map (some w.heap.size)) (keyV m.f1) (.int .i64 m.f0)).run Try.prog W = .ok () w1 ∧ (Below w.heap.size w w1 → ReadLoop w w1 l (k + 1) r) ∧ W.grownBy w1 (some w.heap.size) := by
  obtain ⟨pre, h1, h2, h3, h4, h5, h6⟩ := h.split
  have hl := hlex pre h1 h2
  have hx : ∀ x ∈ m.f1, 0 ≤ x ∧ x ≤ 60 := by
    unfold expsB at he
    rw [List.all_eq_true] at he
    intro x hx
    have := he x hx
    simpa using this
  have hne : ∀ q ∈ (pre.map pairOf).map enc, q.1 ≠ keyV m.f1 := by
    intro q hq e
    obtain ⟨q2, hq2, rfl⟩ := List.mem_map.1 hq
    obtain ⟨q3, hq3, rfl⟩ := List.mem_map.1 hq2
    have e2 : q3.f1 = m.f1 := keyV_inj e
    have := h6 q3 hq3 m.f1 hl
    rw [e2, lexC_self] at this
    omega
  obtain ⟨w1, hrun, hM, hg⟩ := MapIs.put_out (P := Try.prog) (t := 63) (key := keyV m.f1) (MapIs.kept h4 hW (by simp)) keyOk Try.underlying63 (VK_of hm.2.2 hx) hne (.int .i64 m.f0)
  refine ⟨w1, hrun, fun hb => ⟨⟨pre ++ [m], by rw [h1]; simp, by simp [h2], ?_, ?_, ?_, ?_⟩, hb⟩, hg⟩
  · rw [h3, isR, he]
    have a : monoB m = true := by unfold monoB; simp [hm.1, hm.2.1, hm.2.2]
    have b : behindB (pre.getLast?.map (·.f1)) m = true := by
      cases hz : pre.getLast? with
      | none => rfl
      | some z => simp [behindB, hl z hz]
    rw [a, b]; simp
  · simpa [PIs, enc, pairOf] using hM
  · intro q hq
    rcases List.mem_append.1 hq with hq | hq
    · exact h5 q hq
    · rw [List.mem_singleton] at hq
      subst hq
      exact ⟨hm.2.2, he, hm.1, hm.2.1⟩
  · intro q hq x hxx
    have hmx : lexC m.f1 x > 0 := hxx m (by simp)
    rcases List.mem_append.1 hq with hq | hq
    · exact h6 q hq x fun z hz => lexC_trans (hl z hz) hmx
    · rw [List.mem_singleton] at hq
      subst hq
      exact hmx
set_option maxRecDepth 100000 in
set_option maxHeartbeats 4000000 in
theorem read_c (l : List S60) (A : Option Addr) (c : Nat) (w : World) (hr : k60.C w A l.length l) (hc : l.length ≤ c) :
    Calls Try.prog 45 #[.slice A l.length c] w fun e w' => ∃ r, e = .returned (.tuple #[.map r, .bool (isB l)]) ∧ (isB l = true → ∃ b, r = some b ∧ PIs w' b (l.map pairOf)) ∧ Below w.heap.size w w' := by
  have hmm := @run_makeMap Try.prog
  have HR := Aside0.mk hr
  clear hr
  by_cases hl : l.length ≤ 200
  case neg =>
    have hb : decide (200 < (l.length : Int)) = true := decide_eq_true (by omega)
    have hb' : decide (200 < l.length) = true := decide_eq_true (by omega)
    have HF := Aside0.mk (show isB l = false by unfold isB; rw [decide_eq_false hl]; rfl)
    clear hl
    go_enter Try.func45, Try.ntmps45
    go_wp2_with fail
    go_ret2
    exact ⟨none, by rw [HF.out]; rfl, by rw [HF.out]; simp, below_alloc (Below.refl _ _) _⟩
  have hb : decide (200 < (l.length : Int)) = false := decide_eq_false (by omega)
  have hb' : decide (200 < l.length) = false := decide_eq_false (by omega)
  have HL := Aside0.mk hl
  clear hl
  go_enter Try.func45, Try.ntmps45
  go_wp2_with fail
  go_loopg [15] l.length (fun g s15 w' => ∃ (k : Nat) (r : List S60), s15 = .int .i64 k ∧ k + g = l.length ∧ Aside0 (ReadLoop w w' l k r))
  case atStart => exact ⟨0, l, rfl, by omega, ⟨ReadLoop.start _ _ _ (MapIs.made _ _) (below_alloc (Below.refl _ _) _)⟩⟩
  case round =>
    obtain ⟨k, r, rfl, hk, HI⟩ := hrel
    cases r with
    | nil =>
      obtain rfl : k = l.length := HI.out.len
      go_wp2_with fail
      go_ret2
      exact ⟨some w.heap.size, by rw [(HI.out.done HL.out).1]; rfl, fun _ => ⟨_, rfl, (HI.out.done HL.out).2⟩, HI.out.below⟩
    | cons m r =>
      have hlt : k < l.length := HI.out.lt
      have HB := Aside0.mk HI.out.below
      obtain ⟨ad, A2, c2, rfl, h0, h1, h2, h3⟩ := at_T60 (Kd.C_below HR.out HB.out) (k : Int) (by omega) (by omega)
      rw [Int.toNat_natCast] at h0 h1
      have hd : rd_T60 l (k : Int) = m := HI.out.at_
      rw [hd] at h0 h1 h2 h3
      clear hd
      have H2 := Aside0.mk h2
      have H3 := Aside0.mk h3
      clear h2 h3
      by_cases hm1 : m.f0 < 1
      · have b1 : decide (m.f0 < 1) = true := decide_eq_true hm1
        have HF := Aside0.mk (HI.out.no1 (by unfold monoB; rw [decide_eq_false (by omega)]; rfl))
        clear hm1
        go_wp2_with fail
        go_quiet (fail)
        go_wp2_with fail
        go_ret2
        exact ⟨none, by rw [HF.out]; rfl, by rw [HF.out]; simp, pw_below_drewN (below_alloc HB.out _) _⟩
      have b1 : decide (m.f0 < 1) = false := decide_eq_false hm1
      by_cases hm2 : 1000000000000000 < m.f0
      · have b2 : decide (1000000000000000 < m.f0) = true := decide_eq_true hm2
        have HF := Aside0.mk (HI.out.no1 (by unfold monoB; rw [decide_eq_false (show ¬ m.f0 ≤ 1000000000000000 by omega)]; simp))
        clear hm1 hm2
        go_wp2_with fail
        go_quiet (fail)
        go_wp2_with fail
        go_ret2
        exact ⟨none, by rw [HF.out]; rfl, by rw [HF.out]; simp, pw_below_drewN (below_alloc HB.out _) _⟩
      have b2 : decide (1000000000000000 < m.f0) = false := decide_eq_false hm2
      by_cases hm3 : m.f1.length = 8
      case neg =>
        have b3 : ((m.f1.length : Int) != 8) = true := by rw [bne_iff_ne]; omega
        have b3' : ((m.f1.length : Int) == 8) = false := by rw [beq_eq_false_iff_ne]; omega
        have HF := Aside0.mk (HI.out.no1 (by unfold monoB; rw [decide_eq_false hm3]; simp))
        clear hm1 hm2 hm3
        go_wp2_with fail
        go_quiet (fail)
        go_wp2_with fail
        go_ret2
        exact ⟨none, by rw [HF.out]; rfl, by rw [HF.out]; simp, pw_below_drewN (below_alloc HB.out _) _⟩
      have b3 : ((m.f1.length : Int) != 8) = false := by rw [hm3]; rfl
      have b3' : ((m.f1.length : Int) == 8) = true := by rw [hm3]; rfl
      have HM := Aside0.mk (show 1 ≤ m.f0 ∧ m.f0 ≤ 1000000000000000 ∧ m.f1.length = 8 by omega)
      clear hm1 hm2 hm3
      go_upto_region 7 with (fail)
      go_cut [49] (fun s49 wc => ∃ bad : Bool, s49 = .bool bad ∧ (bad = true → isB l = false) ∧ (bad = false → ∀ pre, l = pre ++ m :: r → pre.length = k → ∀ z, pre.getLast? = some z → lexC z.f1 m.f1 > 0) ∧ Drawn0 (wr.alloc (.cells #[.int .i64 m.f0, .slice A2 m.f1.length c2] 60)) wc)
      case first =>
        by_cases hk0 : 0 < k
        case neg =>
          have b4 : decide (0 < (k : Int)) = false := decide_eq_false (by omega)
          have b4' : decide (0 < k) = false := decide_eq_false (by omega)
          have HK := Aside0.mk hk0
          clear hk0
          go_wp2_with fail
          go_quiet (fail)
          go_wp2_with fail
          go_meet
          case rel =>
            go_light
            refine ⟨false, rfl, by simp, fun _ pre hp hpl z hz => ?_, ⟨_, rfl⟩⟩
            have := HK.out
            obtain rfl : pre = [] := List.eq_nil_of_length_eq_zero (by omega)
            simp at hz
        have b4 : decide (0 < (k : Int)) = true := decide_eq_true (by omega)
        have b4' : decide (0 < k) = true := decide_eq_true (by omega)
        obtain ⟨q, hq1, hq2, hq3, hq4⟩ := HI.out.prev hk0
        obtain ⟨j, hj⟩ : ∃ j : Int, wrap64 ((k : Int) - 1) = j := ⟨_, rfl⟩
        have hjw : (IntKind.i64.wrap ((k : Int) - 1)) = j := (i64_w _).trans hj
        have hjk : j = (k : Int) - 1 := by
          rw [← hj, show (k : Int) - 1 = ((k - 1 : Nat) : Int) by omega]
          have := HL.out
          exact wrap_nat _ (by omega)
        rw [← hjk] at hq1
        have p1 : 0 ≤ j := by omega
        have p2 : j < (l.length : Int) := by omega
        obtain ⟨ad', A3, c3, e3, g0, g1, g2, g3⟩ := at_T60 (Kd.C_below HR.out (below_alloc HB.out (.cells #[.int .i64 m.f0, .slice A2 m.f1.length c2] 60))) j p1 p2
        cases e3
        rw [hq1] at g0 g1 g2 g3
        have G2 := Aside0.mk g2
        have G3 := Aside0.mk g3
        have H3' := Aside0.mk (Kd.C_below H3.out (below_alloc (Below.refl _ _) (.cells #[.int .i64 m.f0, .slice A2 m.f1.length c2] 60)))
        have HQ := Aside0.mk (And.intro hq2 (And.intro hq3 hq4))
        have p1' := eq_true p1
        have p2' := eq_true p2
        replace p1 := decide_eq_true p1
        replace p2 := decide_eq_true p2
        clear g2 g3 hq1 hq2 hq3 hq4 hk0 hj hjk
        by_cases hc : lexC q.f1 m.f1 ≤ 0
        · have b5 : decide (lexC q.f1 m.f1 ≤ 0) = true := decide_eq_true hc
          have HF := Aside0.mk (HQ.out.2.1 hc)
          clear hc
          go_wp2_with fail
          go_quiet (first | (go_at_call 80; (with_reducible refine (cmp_c A3 c3 q.f1 A2 c2 m.f1 _ ?side1 G2.out ?side3 H2.out (by rw [HQ.out.1]; decide)).mono ?_); (case side1 => repeat (first | exact G3.out | (with_reducible refine Kd.C_alloc ?_ _) | (with_reducible refine Kd.C_drewN ?_ _) | (with_reducible refine Kd.C_drew ?_))); (case side3 => repeat (first | exact H3'.out | (with_reducible refine Kd.C_alloc ?_ _) | (with_reducible refine Kd.C_drewN ?_ _) | (with_reducible refine Kd.C_drew ?_))); rintro e w' ⟨rfl, ⟨nd, rfl⟩⟩; (try first | exact ⟨rfl, _, World.drewN_drewN _ _ _⟩ | exact ⟨rfl, _, Eq.trans (World.drewN_drewN _ _ _) (congrArg (World.drewN _) (Nat.add_assoc _ _ _))⟩)))
          go_wp2_with fail
          go_meet
          case rel =>
            go_light
            exact ⟨true, rfl, fun _ => HF.out, by simp, ⟨_, rfl⟩⟩
        · have b5 : decide (lexC q.f1 m.f1 ≤ 0) = false := decide_eq_false hc
          have HF := Aside0.mk (HQ.out.2.2 (by omega))
          clear hc
          go_wp2_with fail
          go_quiet (first | (go_at_call 80; (with_reducible refine (cmp_c A3 c3 q.f1 A2 c2 m.f1 _ ?side1 G2.out ?side3 H2.out (by rw [HQ.out.1]; decide)).mono ?_); (case side1 => repeat (first | exact G3.out | (with_reducible refine Kd.C_alloc ?_ _) | (with_reducible refine Kd.C_drewN ?_ _) | (with_reducible refine Kd.C_drew ?_))); (case side3 => repeat (first | exact H3'.out | (with_reducible refine Kd.C_alloc ?_ _) | (with_reducible refine Kd.C_drewN ?_ _) | (with_reducible refine Kd.C_drew ?_))); rintro e w' ⟨rfl, ⟨nd, rfl⟩⟩; (try first | exact ⟨rfl, _, World.drewN_drewN _ _ _⟩ | exact ⟨rfl, _, Eq.trans (World.drewN_drewN _ _ _) (congrArg (World.drewN _) (Nat.add_assoc _ _ _))⟩)))
          go_wp2_with fail
          go_meet
          case rel =>
            go_light
            exact ⟨false, rfl, by simp, fun _ => HF.out, ⟨_, rfl⟩⟩
      case rest =>
        obtain ⟨bad, rfl, hbad, hgood, ⟨nd, rfl⟩⟩ := hcut
        cases bad with
        | true =>
          have HF := Aside0.mk (hbad rfl)
          clear hbad hgood
          go_wp2_with fail
          go_ret2
          exact ⟨none, by rw [HF.out]; rfl, by rw [HF.out]; simp, pw_below_drewN (below_alloc HB.out _) _⟩
        | false =>
          have HG := Aside0.mk (hgood rfl)
          clear hbad hgood
          go_wp2_with fail
          go_loopg [53] m.f1.length (fun g s53 w' => ∃ j : Nat, s53 = .int .i64 j ∧ j + g = m.f1.length ∧ Aside0 (∀ i : Nat, i < j → 0 ≤ rd m.f1 (i : Int) ∧ rd m.f1 (i : Int) ≤ 60) ∧ Drawn0 (wr.alloc (.cells #[.int .i64 m.f0, .slice A2 m.f1.length c2] 60)) w')
          case atStart => exact ⟨0, rfl, by omega, ⟨fun i hi => absurd hi (Nat.not_lt_zero _)⟩, ⟨_, rfl⟩⟩
          case round =>
            obtain ⟨j, rfl, hj, HJ, ⟨n2, rfl⟩⟩ := hrel
            by_cases hjl : j < m.f1.length
            · obtain ⟨ad', e', x0⟩ := Kd.at_int (Kd.C_below H3.out (below_alloc (Below.refl _ _) (.cells #[.int .i64 m.f0, .slice A2 m.f1.length c2] 60))) (j : Int) (by omega) (by omega)
              cases e'
              rw [Int.toNat_natCast] at x0
              obtain ⟨x, hx⟩ : ∃ x, rd m.f1 (j : Int) = x := ⟨_, rfl⟩
              rw [hx] at x0
              have HX := Aside0.mk hx
              clear hx
              have c1 : decide ((j : Int) < (m.f1.length : Int)) = true := decide_eq_true (by omega)
              have c1' : decide (j < m.f1.length) = true := decide_eq_true hjl
              have HJL := Aside0.mk hjl
              by_cases hx0 : x < 0
              · have d1 : decide (x < 0) = true := decide_eq_true hx0
                have HF := Aside0.mk (HI.out.no3 (expsB_at HJL.out (by rw [HX.out]; omega)))
                clear hx0
                go_wp2_with fail
                repeat (go_quiet (fail); try go_wp2_with fail)
                go_ret2
                exact ⟨none, by rw [HF.out]; rfl, by rw [HF.out]; simp, by (with_reducible repeat (first | apply pw_below_drewN | apply below_drew)); exact below_alloc HB.out _⟩
              have d1 : decide (x < 0) = false := decide_eq_false hx0
              by_cases hx1 : 60 < x
              · have d2 : decide (60 < x) = true := decide_eq_true hx1
                have HF := Aside0.mk (HI.out.no3 (expsB_at HJL.out (by rw [HX.out]; omega)))
                clear hx0 hx1
                go_wp2_with fail
                repeat (go_quiet (fail); try go_wp2_with fail)
                go_ret2
                exact ⟨none, by rw [HF.out]; rfl, by rw [HF.out]; simp, by (with_reducible repeat (first | apply pw_below_drewN | apply below_drew)); exact below_alloc HB.out _⟩
              have d2 : decide (60 < x) = false := decide_eq_false hx1
              have HJ2 := Aside0.mk (fun (i : Nat) (hi : i < j + 1) => show 0 ≤ rd m.f1 (i : Int) ∧ rd m.f1 (i : Int) ≤ 60 by
                by_cases e : i = j
                · rw [e, HX.out]; omega
                · exact HJ.out i (by omega))
              clear hx0 hx1
              go_wp2_with fail
              repeat (go_quiet (fail); try go_wp2_with fail)
              go_roundg (m.f1.length - (j + 1))
              case measure => have := HJL.out; omega
              case rel => exact ⟨j + 1, by (have h8 := HM.out.2.2; have h9 := HJL.out; first | exact congrArg _ (wrap_succ j (by omega)) | exact congrArg _ ((i64_w _).trans (wrap_succ j (by omega)))), by have := HJL.out; omega, HJ2, ⟨_, rfl⟩⟩
            · obtain rfl : j = m.f1.length := by omega
              have HE := Aside0.mk (expsB_all HJ.out)
              clear HJ hjl
              obtain ⟨w1, hrun, hN, hg⟩ := HI.out.put HM.out HE.out HG.out (((grownN wr (.cells #[.int .i64 m.f0, .slice A2 m.f1.length c2] 60) n2)))
              have hb1 : Below w.heap.size w w1 := (pw_below_drewN (below_alloc HB.out (.cells #[.int .i64 m.f0, .slice A2 m.f1.length c2] 60)) (n2 + 1)).grown hg (Nat.le_trans HB.out.size (Nat.le_of_lt (la0 wr _))) (fun k hk => by injection hk with hk; omega)
              have HN := Aside0.mk (hN hb1)
              have HB1 := Aside0.mk hb1
              obtain ⟨f0, f1⟩ := m
              have h8 : f1.length = 8 := HM.out.2.2
              have hcl := fun (j : Nat) (hj : j < 8) => Kd.at_int (Kd.C_below H3.out (below_alloc (Below.refl _ _) (.cells #[.int .i64 f0, .slice A2 f1.length c2] 60))) (j : Int) (by omega) (by show (j : Int) < (f1.length : Int); omega)
              obtain ⟨a0, a1, a2, a3, a4, a5, a6, a7, rfl⟩ := eight h8
              obtain ⟨ad2, e2, y0⟩ := hcl 0 (by decide)
              cases e2
              obtain ⟨_, e2, y1⟩ := hcl 1 (by decide)
              cases e2
              obtain ⟨_, e2, y2⟩ := hcl 2 (by decide)
              cases e2
              obtain ⟨_, e2, y3⟩ := hcl 3 (by decide)
              cases e2
              obtain ⟨_, e2, y4⟩ := hcl 4 (by decide)
              cases e2
              obtain ⟨_, e2, y5⟩ := hcl 5 (by decide)
              cases e2
              obtain ⟨_, e2, y6⟩ := hcl 6 (by decide)
              cases e2
              obtain ⟨_, e2, y7⟩ := hcl 7 (by decide)
              cases e2
              clear hcl hN hg hb1 h8
              simp only [rd, Int.toNat_natCast, List.getD_cons_zero, List.getD_cons_succ, List.length_cons, List.length_nil, Nat.zero_add, Nat.reduceAdd] at y0 y1 y2 y3 y4 y5 y6 y7 hrun
              replace y0 : (wr.alloc (.cells #[.int .i64 f0, .slice (some ad2) 8 c2] 60)).cell? ad2 = some (.int .i64 a0) := y0
              replace y1 : (wr.alloc (.cells #[.int .i64 f0, .slice (some ad2) 8 c2] 60)).cell? ⟨ad2.block, ad2.off + 1, none⟩ = some (.int .i64 a1) := y1
              replace y2 : (wr.alloc (.cells #[.int .i64 f0, .slice (some ad2) 8 c2] 60)).cell? ⟨ad2.block, ad2.off + 2, none⟩ = some (.int .i64 a2) := y2
              replace y3 : (wr.alloc (.cells #[.int .i64 f0, .slice (some ad2) 8 c2] 60)).cell? ⟨ad2.block, ad2.off + 3, none⟩ = some (.int .i64 a3) := y3
              replace y4 : (wr.alloc (.cells #[.int .i64 f0, .slice (some ad2) 8 c2] 60)).cell? ⟨ad2.block, ad2.off + 4, none⟩ = some (.int .i64 a4) := y4
              replace y5 : (wr.alloc (.cells #[.int .i64 f0, .slice (some ad2) 8 c2] 60)).cell? ⟨ad2.block, ad2.off + 5, none⟩ = some (.int .i64 a5) := y5
              replace y6 : (wr.alloc (.cells #[.int .i64 f0, .slice (some ad2) 8 c2] 60)).cell? ⟨ad2.block, ad2.off + 6, none⟩ = some (.int .i64 a6) := y6
              replace y7 : (wr.alloc (.cells #[.int .i64 f0, .slice (some ad2) 8 c2] 60)).cell? ⟨ad2.block, ad2.off + 7, none⟩ = some (.int .i64 a7) := y7
              replace hrun : (Instr.mapUpdate 63 (.map (some w.heap.size)) (.agg #[.int .i64 a0, .int .i64 a1, .int .i64 a2, .int .i64 a3, .int .i64 a4, .int .i64 a5, .int .i64 a6, .int .i64 a7]) (.int .i64 f0)).run Try.prog ((wr.alloc (.cells #[.int .i64 f0, .slice (some ad2) 8 c2] 60)).drewN (n2 + 1)) = .ok () w1 := hrun
              have hat : ∀ w, (Instr.arrayAt 76 (.slice (some ad2) 8 c2)).run Try.prog w = .ok (.pointer (some ad2)) w := fun w => run_arrayAt w 76 _ 8 _ 8 c2 Try.underlying76 (by decide)
              go_wp2_with fail
              go_big_region
              go_wp2_with fail
              go_roundg (l.length - (k + 1))
              case measure => have := HI.out.lt; omega
              case rel => exact ⟨k + 1, r, by (have h8 := HL.out; have h9 := HI.out.lt; first | exact congrArg _ (wrap_succ k (by omega)) | exact congrArg _ ((i64_w _).trans (wrap_succ k (by omega)))), by have := HI.out.lt; omega, HN⟩
end Go.Proofs.Ythkclagcbjnckaa.Pa

namespace Go.Proofs.Ythkclagcbjnckaa.Pa
set_option linter.unusedVariables false
set_option linter.unusedSimpArgs false
open Go.RowKit Go.Proofs.RawMap Go.Proofs.YthkclagcbjnckaaW.PrintWords Go.Proofs.YthkclagcbjnckaaW.PrintLast Go.Proofs.YthkclagcbjnckaaW.PrintMore
def tenetlaw24_awake.f : Option (Bool) := some true
theorem tenetlaw24_awake.calls (r : Bool) (w : World) (h : tenetlaw24_awake.f = some r) :
    Calls Try.prog 13 #[] w fun e w' => e = .returned (.bool r) ∧ Below w.heap.size w w' := by
  obtain rfl := Option.some.inj h
  exact awake_c w
def ring_read.f (l0 : List S60) : Option (Int × Bool) := some (0, isB l0)
theorem ring_read.calls (A0 : Option Addr) (c0 : Nat) (l0 : List S60) (r1 : Int) (r2 : Bool) (w : World) (hr0 : Kd.C k60 w A0 l0.length l0) (hc0 : l0.length ≤ c0) (h : ring_read.f l0 = some (r1, r2)) :
    Calls Try.prog 45 #[.slice A0 l0.length c0] w fun e w' => ∃ m, e = .returned (.tuple #[.map m, .bool r2]) ∧ Below w.heap.size w w' := by
  injection h with h
  injection h with _ h
  subst h
  exact (read_c l0 A0 c0 w hr0 hc0).mono fun e w' ⟨r, he, _, hb⟩ => ⟨r, he, hb⟩
end Go.Proofs.Ythkclagcbjnckaa.Pa


namespace Go.Proofs.Ythkclagcbjnckaa.Pa
open Go.RowKit Go.Proofs.YthkclagcbjnckaaW.PrintWords Go.Proofs.YthkclagcbjnckaaW.PrintLast Go.Proofs.YthkclagcbjnckaaW.PrintMore
attribute [local go_sem] max2_int min2_int max_two min_two max_three min_three max_four min_four
set_option linter.unusedVariables false
set_option linter.unusedSimpArgs false
def ring_num.f (a0 : Int) : Option (Int × Int × (List (S27))) := some (1, a0, ([] : List (S27)))
set_option maxHeartbeats 8000000 in
set_option maxRecDepth 100000 in
theorem ring_num.calls (a0 : Int) (r1 : Int) (r2 : Int) (r3 : List (S27)) (w : World) (h : ring_num.f a0 = some (r1, r2, r3)) :
  Calls Try.prog 46 #[.int .i64 a0] w fun e w' => ∃ v2_ : Value, e = .returned (.agg #[.int .i64 r1, .int .i64 r2, v2_]) ∧ Kd.R k27 27 w' w.heap.size (fun _ => True) v2_ r3 ∧ Below w.heap.size w w' := by
 have hu27 := Try.underlying27
 have HB := Aside0.mk (Below.refl w.heap.size w)
 have H : (some (1, a0, ([] : List (S27)))) = some (r1, r2, r3) := h
 clear h
 simp only [Option.some.injEq, Prod.mk.injEq] at H
 obtain ⟨rfl, rfl, rfl⟩ := H
 go_enter Try.func46, Try.ntmps46
 go_wp2_with (first | ((with_reducible refine gate_dst (N := 2) rfl ?_); refine box_event ?hg (N := 2) ?hd (cs := #[.int .i64 0, .int .i64 0, .slice none 0 0]) (t := 27) ?hr ?_; (case hd => rfl); (case hg => rfl); (case hr => first | (go_simp; done) | (go_simp; rfl)); intro gb219 hg w2 hbox hb; have n0_ := Aside0.mk (below_step (by repeat (first | (with_reducible first | exact HB.out | apply below_alloc | apply pw_below_drewN | apply below_drew1) | exact HB.out)) hb); have n1_ := Aside0.mk (hbox); have n2_ := Aside0.mk ((by rw [hg]; exact (below_size (by repeat (first | (with_reducible first | exact HB.out | apply below_alloc | apply pw_below_drewN | apply below_drew1) | exact HB.out))) : w.heap.size ≤ gb219)); have n3_ := Aside0.mk ((by rw [hg]; exact (below_size (by repeat (first | (with_reducible first | exact HB.out | apply below_alloc | apply pw_below_drewN | apply below_drew1) | exact HB.out))) : w.heap.size ≤ gb219)); clear HB; have HB := n0_; have BK219 := n1_; have GW219 := n2_; have GE219 := n3_; clear n0_ n1_ n2_ n3_; clear hb hbox hg; have hcz3_0 : w2.cell? ⟨gb219, 0, none⟩ = some (.int .i64 0) := (blk_cell BK219.out 0).trans rfl; have hcz3_1 : w2.cell? ⟨gb219, 1, none⟩ = some (.int .i64 0) := (blk_cell BK219.out 1).trans rfl; have hcz3_2 : w2.cell? ⟨gb219, 2, none⟩ = some (.slice none 0 0) := (blk_cell BK219.out 2).trans rfl; have hfz3_0 := blk_frozen BK219.out 0; have hfz3_1 := blk_frozen BK219.out 1; have hfz3_2 := blk_frozen BK219.out 2))
 refine bodyPost_ret (results_cell_row rfl _ _ gb219 27 #[.int .i64 1, .int .i64 a0, .slice none 0 0] (0, 0) _ rfl (by (with_reducible repeat (first | refine blk_drewN ?_ _ | refine blk_drew ?_ | refine blk_alloc ?_ _)); refine blk_put (cs := #[.int .i64 1, .int .i64 a0, .slice none 0 0]) ?_ 2 _ rfl; (with_reducible repeat (first | refine blk_drewN ?_ _ | refine blk_drew ?_ | refine blk_alloc ?_ _)); refine blk_put (cs := #[.int .i64 1, .int .i64 0, .slice none 0 0]) ?_ 1 _ rfl; (with_reducible repeat (first | refine blk_drewN ?_ _ | refine blk_drew ?_ | refine blk_alloc ?_ _)); refine blk_put (cs := #[.int .i64 0, .int .i64 0, .slice none 0 0]) ?_ 0 _ rfl; (with_reducible repeat (first | refine blk_drewN ?_ _ | refine blk_drew ?_ | refine blk_alloc ?_ _)); exact BK219.out) Try.underlying27 rfl (by kernel_rfl)) rfl ?_
 exact ⟨_, by first | rfl | (simp [errW_none, errW_some] <;> rfl) | (simp [*, errW_none, errW_some] <;> rfl), by first | exact Kd.R_nil _ _ _ _ _ | exact Kd.N_nil _ _ _ _ _ | exact Kd.V_nil _ _ _ _ _ | exact Kd.Q_nil _ _ _ _ _ | exact Kd.S_nil _ _ _ _ _, by repeat (first | (with_reducible first | exact HB.out | apply below_alloc | apply pw_below_drewN | apply below_drew1 | refine below_set ?_ GE219.out) | exact HB.out)⟩
end Go.Proofs.Ythkclagcbjnckaa.Pa


namespace Go.Proofs.Ythkclagcbjnckaa.Pa
open Go.RowKit Go.Proofs.YthkclagcbjnckaaW.PrintWords Go.Proofs.YthkclagcbjnckaaW.PrintLast Go.Proofs.YthkclagcbjnckaaW.PrintMore
attribute [local go_sem] max2_int min2_int max_two min_two max_three min_three max_four min_four
set_option linter.unusedVariables false
set_option linter.unusedSimpArgs false
def ring_pair.f (a0 : Int) (a1_0 : Int) (a1_1 : Int) (l1_2 : List (S27)) (a2_0 : Int) (a2_1 : Int) (l2_2 : List (S27)) : Option (Int × Int × (List (S27))) := some (a0, 0, (([(⟨a1_0, a1_1, l1_2⟩ : S27), (⟨a2_0, a2_1, l2_2⟩ : S27)] : List (S27))))
set_option maxHeartbeats 8000000 in
set_option maxRecDepth 100000 in
theorem ring_pair.calls (a0 : Int) (a1_0 : Int) (a1_1 : Int) (P1_2_ : Nat → Prop) (A1_2 : Option Addr) (c1_2 : Nat) (l1_2 : List (S27)) (a2_0 : Int) (a2_1 : Int) (P2_2_ : Nat → Prop) (A2_2 : Option Addr) (c2_2 : Nat) (l2_2 : List (S27)) (r1 : Int) (r2 : Int) (r3 : List (S27)) (w : World) (hs1_2 : Kd.V k27 27 w w.heap.size (fun k_ => P1_2_ k_) (.slice A1_2 l1_2.length c1_2) l1_2) (hs2_2 : Kd.V k27 27 w w.heap.size (fun k_ => P2_2_ k_) (.slice A2_2 l2_2.length c2_2) l2_2) (h : ring_pair.f a0 a1_0 a1_1 l1_2 a2_0 a2_1 l2_2 = some (r1, r2, r3)) :
  Calls Try.prog 47 #[.int .i64 a0, .agg #[.int .i64 a1_0, .int .i64 a1_1, .slice A1_2 l1_2.length c1_2], .agg #[.int .i64 a2_0, .int .i64 a2_1, .slice A2_2 l2_2.length c2_2]] w fun e w' => ∃ v2_ : Value, e = .returned (.agg #[.int .i64 r1, .int .i64 r2, v2_]) ∧ Kd.N k27 27 w' w.heap.size (fun k_ => ((P1_2_ k_ ∨ P2_2_ k_) ∨ w.heap.size ≤ k_)) v2_ r3 ∧ Below w.heap.size w w' := by
 have hu27 := Try.underlying27
 have HO1_2 := Aside0.mk (show Kd.V k27 27 w w.heap.size (fun k_ => ((P1_2_ k_ ∨ P2_2_ k_) ∨ w.heap.size ≤ k_)) (.slice A1_2 l1_2.length c1_2) l1_2 from Kd.V_mono hs1_2 (fun k_ hk => .inl (.inl hk)))
 have HO2_2 := Aside0.mk (show Kd.V k27 27 w w.heap.size (fun k_ => ((P1_2_ k_ ∨ P2_2_ k_) ∨ w.heap.size ≤ k_)) (.slice A2_2 l2_2.length c2_2) l2_2 from Kd.V_mono hs2_2 (fun k_ hk => .inl (.inr hk)))
 have HB := Aside0.mk (Below.refl w.heap.size w)
 have H : (some (a0, 0, (([(⟨a1_0, a1_1, l1_2⟩ : S27), (⟨a2_0, a2_1, l2_2⟩ : S27)] : List (S27))))) = some (r1, r2, r3) := h
 clear h
 obtain ⟨y223, hy223⟩ : ∃ y_ : List (S27), y_ = (([(⟨a1_0, a1_1, l1_2⟩ : S27), (⟨a2_0, a2_1, l2_2⟩ : S27)] : List (S27))) := ⟨_, rfl⟩
 replace H : (some (a0, 0, y223)) = some (r1, r2, r3) := by first | (rw [hy223]; with_reducible exact H) | (have H2_ := (Option.bind_some _ _).symm.trans H; rw [hy223]; with_reducible exact H2_) | (have H2_ := (Option.bind_some _ _).symm.trans H; with_reducible exact H2_) | with_reducible exact H | (rw [hy223]; exact H) | exact H
 have Ny223 := Aside0.mk hy223
 clear hy223
 simp only [Option.some.injEq, Prod.mk.injEq] at H
 obtain ⟨rfl, rfl, rfl⟩ := H
 go_enter Try.func47, Try.ntmps47
 go_wp2_with (first | ((with_reducible refine gate_dst (N := 4) rfl ?_); refine box_event ?hg (N := 4) ?hd (cs := #[.int .i64 a1_0, .int .i64 a1_1, .slice A1_2 l1_2.length c1_2]) (t := 27) ?hr ?_; (case hd => rfl); (case hg => rfl); (case hr => first | (go_simp; done) | (go_simp; rfl)); intro gb220 hg w4 hbox hb; have n0_ := Aside0.mk (Kd.V_below (Kd.V_elderB (by (with_reducible repeat (first | apply Kd.V_alloc | apply Kd.V_drewN | apply Kd.V_drew)); exact HO1_2.out) gb220 (Nat.le_of_eq hg.symm)) hb); have n1_ := Aside0.mk (Kd.V_below (Kd.V_elderB (by (with_reducible repeat (first | apply Kd.V_alloc | apply Kd.V_drewN | apply Kd.V_drew)); exact HO2_2.out) gb220 (Nat.le_of_eq hg.symm)) hb); have n2_ := Aside0.mk (below_step (by repeat (first | (with_reducible first | exact HB.out | apply below_alloc | apply pw_below_drewN | apply below_drew1) | exact HB.out)) hb); have n3_ := Aside0.mk (hbox); have n4_ := Aside0.mk ((by rw [hg]; exact (below_size (by repeat (first | (with_reducible first | exact HB.out | apply below_alloc | apply pw_below_drewN | apply below_drew1) | exact HB.out))) : w.heap.size ≤ gb220)); have n5_ := Aside0.mk ((by rw [hg]; exact (below_size (by repeat (first | (with_reducible first | exact HB.out | apply below_alloc | apply pw_below_drewN | apply below_drew1) | exact HB.out))) : w.heap.size ≤ gb220)); clear HO1_2; clear HO2_2; clear HB; have HO1_2 := n0_; have HO2_2 := n1_; have HB := n2_; have BK220 := n3_; have GW220 := n4_; have GE220 := n5_; clear n0_ n1_ n2_ n3_ n4_ n5_; clear hb hbox hg) | ((with_reducible refine gate_dst (N := 5) rfl ?_); refine box_event ?hg (N := 5) ?hd (cs := #[.int .i64 a2_0, .int .i64 a2_1, .slice A2_2 l2_2.length c2_2]) (t := 27) ?hr ?_; (case hd => rfl); (case hg => rfl); (case hr => first | (go_simp; done) | (go_simp; rfl)); intro gb221 hg w5 hbox hb; have n0_ := Aside0.mk (Kd.V_below (Kd.V_elderB (by (with_reducible repeat (first | apply Kd.V_alloc | apply Kd.V_drewN | apply Kd.V_drew)); exact HO1_2.out) gb221 (Nat.le_of_eq hg.symm)) hb); have n1_ := Aside0.mk (Kd.V_below (Kd.V_elderB (by (with_reducible repeat (first | apply Kd.V_alloc | apply Kd.V_drewN | apply Kd.V_drew)); exact HO2_2.out) gb221 (Nat.le_of_eq hg.symm)) hb); have n2_ := Aside0.mk (blk_below (g := gb220) (o := .cells #[.int .i64 a1_0, .int .i64 a1_1, .slice A1_2 l1_2.length c1_2] 27 (0, 0)) (by (with_reducible repeat (first | refine blk_drewN ?_ _ | refine blk_drew ?_ | refine blk_alloc ?_ _)); exact BK220.out) hb); have n3_ := Aside0.mk (below_step (by repeat (first | (with_reducible first | exact HB.out | apply below_alloc | apply pw_below_drewN | apply below_drew1 | refine below_set ?_ GE220.out) | exact HB.out)) hb); have n4_ := Aside0.mk (hbox); have n5_ := Aside0.mk ((by rw [hg]; exact (below_size (by repeat (first | (with_reducible first | exact HB.out | apply below_alloc | apply pw_below_drewN | apply below_drew1 | refine below_set ?_ GE220.out) | exact HB.out))) : w.heap.size ≤ gb221)); have n6_ := Aside0.mk ((by rw [hg]; exact (below_size (by repeat (first | (with_reducible first | exact HB.out | apply below_alloc | apply pw_below_drewN | apply below_drew1 | refine below_set ?_ GE220.out) | exact HB.out))) : w.heap.size ≤ gb221)); have n7_ := Aside0.mk ((by rw [hg]; exact Nat.ne_of_lt (blk_lt (g := gb220) (o := .cells #[.int .i64 a1_0, .int .i64 a1_1, .slice A1_2 l1_2.length c1_2] 27 (0, 0)) (by (with_reducible repeat (first | refine blk_drewN ?_ _ | refine blk_drew ?_ | refine blk_alloc ?_ _)); exact BK220.out)) : gb220 ≠ gb221)); have n8_ := Aside0.mk ((by rw [hg]; exact Nat.ne_of_gt (blk_lt (g := gb220) (o := .cells #[.int .i64 a1_0, .int .i64 a1_1, .slice A1_2 l1_2.length c1_2] 27 (0, 0)) (by (with_reducible repeat (first | refine blk_drewN ?_ _ | refine blk_drew ?_ | refine blk_alloc ?_ _)); exact BK220.out)) : gb221 ≠ gb220)); clear HO1_2; clear HO2_2; clear BK220; clear HB; have HO1_2 := n0_; have HO2_2 := n1_; have BK220 := n2_; have HB := n3_; have BK221 := n4_; have GW221 := n5_; have GE221 := n6_; have NB220_221 := n7_; have NB221_220 := n8_; clear n0_ n1_ n2_ n3_ n4_ n5_ n6_ n7_ n8_; clear hb hbox hg) | ((with_reducible refine gate_dst (N := 6) rfl ?_); refine box_event ?hg (N := 6) ?hd (cs := #[.int .i64 0, .int .i64 0, .slice none 0 0]) (t := 27) ?hr ?_; (case hd => rfl); (case hg => rfl); (case hr => first | (go_simp; done) | (go_simp; rfl)); intro gb222 hg w6 hbox hb; have n0_ := Aside0.mk (Kd.V_below (Kd.V_elderB (by (with_reducible repeat (first | apply Kd.V_alloc | apply Kd.V_drewN | apply Kd.V_drew)); exact HO1_2.out) gb222 (Nat.le_of_eq hg.symm)) hb); have n1_ := Aside0.mk (Kd.V_below (Kd.V_elderB (by (with_reducible repeat (first | apply Kd.V_alloc | apply Kd.V_drewN | apply Kd.V_drew)); exact HO2_2.out) gb222 (Nat.le_of_eq hg.symm)) hb); have n2_ := Aside0.mk (blk_below (g := gb220) (o := .cells #[.int .i64 a1_0, .int .i64 a1_1, .slice A1_2 l1_2.length c1_2] 27 (0, 0)) (by (with_reducible repeat (first | refine blk_drewN ?_ _ | refine blk_drew ?_ | refine blk_alloc ?_ _)); exact BK220.out) hb); have n3_ := Aside0.mk (blk_below (g := gb221) (o := .cells #[.int .i64 a2_0, .int .i64 a2_1, .slice A2_2 l2_2.length c2_2] 27 (0, 0)) (by (with_reducible repeat (first | refine blk_drewN ?_ _ | refine blk_drew ?_ | refine blk_alloc ?_ _)); exact BK221.out) hb); have n4_ := Aside0.mk (below_step (by repeat (first | (with_reducible first | exact HB.out | apply below_alloc | apply pw_below_drewN | apply below_drew1 | refine below_set ?_ GE220.out | refine below_set ?_ GE221.out) | exact HB.out)) hb); have n5_ := Aside0.mk (hbox); have n6_ := Aside0.mk ((by rw [hg]; exact (below_size (by repeat (first | (with_reducible first | exact HB.out | apply below_alloc | apply pw_below_drewN | apply below_drew1 | refine below_set ?_ GE220.out | refine below_set ?_ GE221.out) | exact HB.out))) : w.heap.size ≤ gb222)); have n7_ := Aside0.mk ((by rw [hg]; exact (below_size (by repeat (first | (with_reducible first | exact HB.out | apply below_alloc | apply pw_below_drewN | apply below_drew1 | refine below_set ?_ GE220.out | refine below_set ?_ GE221.out) | exact HB.out))) : w.heap.size ≤ gb222)); have n8_ := Aside0.mk ((by rw [hg]; exact Nat.ne_of_lt (blk_lt (g := gb220) (o := .cells #[.int .i64 a1_0, .int .i64 a1_1, .slice A1_2 l1_2.length c1_2] 27 (0, 0)) (by (with_reducible repeat (first | refine blk_drewN ?_ _ | refine blk_drew ?_ | refine blk_alloc ?_ _)); exact BK220.out)) : gb220 ≠ gb222)); have n9_ := Aside0.mk ((by rw [hg]; exact Nat.ne_of_gt (blk_lt (g := gb220) (o := .cells #[.int .i64 a1_0, .int .i64 a1_1, .slice A1_2 l1_2.length c1_2] 27 (0, 0)) (by (with_reducible repeat (first | refine blk_drewN ?_ _ | refine blk_drew ?_ | refine blk_alloc ?_ _)); exact BK220.out)) : gb222 ≠ gb220)); have n10_ := Aside0.mk ((by rw [hg]; exact Nat.ne_of_lt (blk_lt (g := gb221) (o := .cells #[.int .i64 a2_0, .int .i64 a2_1, .slice A2_2 l2_2.length c2_2] 27 (0, 0)) (by (with_reducible repeat (first | refine blk_drewN ?_ _ | refine blk_drew ?_ | refine blk_alloc ?_ _)); exact BK221.out)) : gb221 ≠ gb222)); have n11_ := Aside0.mk ((by rw [hg]; exact Nat.ne_of_gt (blk_lt (g := gb221) (o := .cells #[.int .i64 a2_0, .int .i64 a2_1, .slice A2_2 l2_2.length c2_2] 27 (0, 0)) (by (with_reducible repeat (first | refine blk_drewN ?_ _ | refine blk_drew ?_ | refine blk_alloc ?_ _)); exact BK221.out)) : gb222 ≠ gb221)); clear HO1_2; clear HO2_2; clear BK220; clear BK221; clear HB; have HO1_2 := n0_; have HO2_2 := n1_; have BK220 := n2_; have BK221 := n3_; have HB := n4_; have BK222 := n5_; have GW222 := n6_; have GE222 := n7_; have NB220_222 := n8_; have NB222_220 := n9_; have NB221_222 := n10_; have NB222_221 := n11_; clear n0_ n1_ n2_ n3_ n4_ n5_ n6_ n7_ n8_ n9_ n10_ n11_; clear hb hbox hg; have hnb7 := NB220_221.out; have hnc7 := NB221_220.out; have hnb8 := NB220_222.out; have hnc8 := NB222_220.out; have hcz9_0 : w6.cell? ⟨gb220, 0, none⟩ = some (.int .i64 a1_0) := (blk_cell BK220.out 0).trans rfl; have hcz9_1 : w6.cell? ⟨gb220, 1, none⟩ = some (.int .i64 a1_1) := (blk_cell BK220.out 1).trans rfl; have hcz9_2 : w6.cell? ⟨gb220, 2, none⟩ = some (.slice A1_2 l1_2.length c1_2) := (blk_cell BK220.out 2).trans rfl; have hfz9_0 := blk_frozen BK220.out 0; have hfz9_1 := blk_frozen BK220.out 1; have hfz9_2 := blk_frozen BK220.out 2; have hnb10 := NB221_222.out; have hnc10 := NB222_221.out; have hcz11_0 : w6.cell? ⟨gb221, 0, none⟩ = some (.int .i64 a2_0) := (blk_cell BK221.out 0).trans rfl; have hcz11_1 : w6.cell? ⟨gb221, 1, none⟩ = some (.int .i64 a2_1) := (blk_cell BK221.out 1).trans rfl; have hcz11_2 : w6.cell? ⟨gb221, 2, none⟩ = some (.slice A2_2 l2_2.length c2_2) := (blk_cell BK221.out 2).trans rfl; have hfz11_0 := blk_frozen BK221.out 0; have hfz11_1 := blk_frozen BK221.out 1; have hfz11_2 := blk_frozen BK221.out 2) | ((with_reducible refine gate_dst (N := 10) rfl ?_); refine Kd.N_lit k27 _ 27 ?hg (N' := 10) ?hd (xs := ([(⟨a1_0, a1_1, l1_2⟩ : S27), (⟨a2_0, a2_1, l2_2⟩ : S27)] : List (S27))) (inner := [.int .i64 a1_0, .int .i64 a1_1, .slice A1_2 l1_2.length c1_2, .int .i64 a2_0, .int .i64 a2_1, .slice A2_2 l2_2.length c2_2]) (ok := (fun k_ => ((P1_2_ k_ ∨ P2_2_ k_) ∨ w.heap.size ≤ k_) ∧ k_ ≠ gb220 ∧ k_ ≠ gb221 ∧ k_ ≠ gb222)) (okp := (fun k_ => ((P1_2_ k_ ∨ P2_2_ k_) ∨ w.heap.size ≤ k_) ∧ k_ ≠ gb220 ∧ k_ ≠ gb221 ∧ k_ ≠ gb222)) ?hr ?hp (fun _ hk => hk) ((show ∀ k_, w6.heap.size ≤ k_ → (fun k_ => ((P1_2_ k_ ∨ P2_2_ k_) ∨ w.heap.size ≤ k_) ∧ k_ ≠ gb220 ∧ k_ ≠ gb221 ∧ k_ ≠ gb222) k_ from fun k_ hk => ⟨(.inr (Nat.le_trans (below_size (by repeat (first | (with_reducible first | exact HB.out | apply below_alloc | apply pw_below_drewN | apply below_drew1 | refine below_set ?_ GE220.out | refine below_set ?_ GE221.out | refine below_set ?_ GE222.out) | exact HB.out))) hk)), Kd.freshB (g := gb220) (o := .cells #[.int .i64 a1_0, .int .i64 a1_1, .slice A1_2 l1_2.length c1_2] 27 (0, 0)) (by (with_reducible repeat (first | refine blk_drewN ?_ _ | refine blk_drew ?_ | refine blk_alloc ?_ _)); exact BK220.out) k_ hk, Kd.freshB (g := gb221) (o := .cells #[.int .i64 a2_0, .int .i64 a2_1, .slice A2_2 l2_2.length c2_2] 27 (0, 0)) (by (with_reducible repeat (first | refine blk_drewN ?_ _ | refine blk_drew ?_ | refine blk_alloc ?_ _)); exact BK221.out) k_ hk, Kd.freshB (g := gb222) (o := .cells #[.int .i64 0, .int .i64 0, .slice none 0 0] 27 (0, 0)) (by (with_reducible repeat (first | refine blk_drewN ?_ _ | refine blk_drew ?_ | refine blk_alloc ?_ _)); exact BK222.out) k_ hk⟩) _ (Nat.le_refl _)) (Below.refl _ _) (Nat.le_refl _) (by simp) ?_; (case hd => rfl); (case hg => rfl); (case hr => first | (go_simp; done) | (go_simp; rfl)); (case hp => exact (Reps.c3 (show Kd.FK k27 _ _ (⟨a1_0, a1_1, l1_2⟩ : S27) [.int .i64 a1_0, .int .i64 a1_1, .slice A1_2 l1_2.length c1_2] from (k27_mkF _ _ (⟨a1_0, a1_1, l1_2⟩ : S27) (Kd.V_reads' (Kd.V_mono (ok' := (fun k_ => ((P1_2_ k_ ∨ P2_2_ k_) ∨ w.heap.size ≤ k_) ∧ k_ ≠ gb220 ∧ k_ ≠ gb221 ∧ k_ ≠ gb222)) (HO1_2.out) (fun k_ hk => ⟨hk.1.1.1, ⟨hk.1.1.2, ⟨hk.1.2, hk.2⟩⟩⟩))).2.1 (Kd.V_F (Kd.V_mono (ok' := (fun k_ => ((P1_2_ k_ ∨ P2_2_ k_) ∨ w.heap.size ≤ k_) ∧ k_ ≠ gb220 ∧ k_ ≠ gb221 ∧ k_ ≠ gb222)) (HO1_2.out) (fun k_ hk => ⟨hk.1.1.1, ⟨hk.1.1.2, ⟨hk.1.2, hk.2⟩⟩⟩))))) (Reps.c3 (show Kd.FK k27 _ _ (⟨a2_0, a2_1, l2_2⟩ : S27) [.int .i64 a2_0, .int .i64 a2_1, .slice A2_2 l2_2.length c2_2] from (k27_mkF _ _ (⟨a2_0, a2_1, l2_2⟩ : S27) (Kd.V_reads' (Kd.V_mono (ok' := (fun k_ => ((P1_2_ k_ ∨ P2_2_ k_) ∨ w.heap.size ≤ k_) ∧ k_ ≠ gb220 ∧ k_ ≠ gb221 ∧ k_ ≠ gb222)) (HO2_2.out) (fun k_ hk => ⟨hk.1.1.1, ⟨hk.1.1.2, ⟨hk.1.2, hk.2⟩⟩⟩))).2.1 (Kd.V_F (Kd.V_mono (ok' := (fun k_ => ((P1_2_ k_ ∨ P2_2_ k_) ∨ w.heap.size ≤ k_) ∧ k_ ≠ gb220 ∧ k_ ≠ gb221 ∧ k_ ≠ gb222)) (HO2_2.out) (fun k_ hk => ⟨hk.1.1.1, ⟨hk.1.1.2, ⟨hk.1.2, hk.2⟩⟩⟩))))) (Reps.none _ _)))); intro v224 w12 ho13 hb hg_ hnew_; clear hg_ hnew_; (first | rw [← Ny223.out] at ho13 | (simp only [Int.reduceToNat] at ho13; rw [← Ny223.out] at ho13)); have n0_ := Aside0.mk (Kd.V_elder' (by (with_reducible repeat (first | apply Kd.V_alloc | apply Kd.V_drewN | apply Kd.V_drew)); exact HO1_2.out) (Kd.N_base ho13) hb); have n1_ := Aside0.mk (Kd.V_elder' (by (with_reducible repeat (first | apply Kd.V_alloc | apply Kd.V_drewN | apply Kd.V_drew)); exact HO2_2.out) (Kd.N_base ho13) hb); have n2_ := Aside0.mk (Kd.N_lower ho13 (below_size (by repeat (first | (with_reducible first | exact HB.out | apply below_alloc | apply pw_below_drewN | apply below_drew1 | refine below_set ?_ GE220.out | refine below_set ?_ GE221.out | refine below_set ?_ GE222.out) | exact HB.out)))); have n3_ := Aside0.mk (blk_below (g := gb220) (o := .cells #[.int .i64 a1_0, .int .i64 a1_1, .slice A1_2 l1_2.length c1_2] 27 (0, 0)) (by (with_reducible repeat (first | refine blk_drewN ?_ _ | refine blk_drew ?_ | refine blk_alloc ?_ _)); exact BK220.out) hb); have n4_ := Aside0.mk (blk_below (g := gb221) (o := .cells #[.int .i64 a2_0, .int .i64 a2_1, .slice A2_2 l2_2.length c2_2] 27 (0, 0)) (by (with_reducible repeat (first | refine blk_drewN ?_ _ | refine blk_drew ?_ | refine blk_alloc ?_ _)); exact BK221.out) hb); have n5_ := Aside0.mk (blk_below (g := gb222) (o := .cells #[.int .i64 0, .int .i64 0, .slice none 0 0] 27 (0, 0)) (by (with_reducible repeat (first | refine blk_drewN ?_ _ | refine blk_drew ?_ | refine blk_alloc ?_ _)); exact BK222.out) hb); have n6_ := Aside0.mk (below_step (by repeat (first | (with_reducible first | exact HB.out | apply below_alloc | apply pw_below_drewN | apply below_drew1 | refine below_set ?_ GE220.out | refine below_set ?_ GE221.out | refine below_set ?_ GE222.out) | exact HB.out)) hb); clear HO1_2; clear HO2_2; clear BK220; clear BK221; clear BK222; clear HB; have HO1_2 := n0_; have HO2_2 := n1_; have HO225 := n2_; have BK220 := n3_; have BK221 := n4_; have BK222 := n5_; have HB := n6_; clear n0_ n1_ n2_ n3_ n4_ n5_ n6_; clear hb ho13; obtain ⟨Ao14, co14, eo14⟩ := Kd.N_slice HO225.out; subst eo14; have hcz15_0 : w12.cell? ⟨gb222, 0, none⟩ = some (.int .i64 0) := (blk_cell BK222.out 0).trans rfl; have hcz15_1 : w12.cell? ⟨gb222, 1, none⟩ = some (.int .i64 0) := (blk_cell BK222.out 1).trans rfl; have hcz15_2 : w12.cell? ⟨gb222, 2, none⟩ = some (.slice none 0 0) := (blk_cell BK222.out 2).trans rfl; have hfz15_0 := blk_frozen BK222.out 0; have hfz15_1 := blk_frozen BK222.out 1; have hfz15_2 := blk_frozen BK222.out 2))
 refine bodyPost_ret (results_cell_row rfl _ _ gb222 27 #[.int .i64 a0, .int .i64 0, .slice Ao14 y223.length co14] (0, 0) _ rfl (by (with_reducible repeat (first | refine blk_drewN ?_ _ | refine blk_drew ?_ | refine blk_alloc ?_ _)); refine blk_put (cs := #[.int .i64 a0, .int .i64 0, .slice none 0 0]) ?_ 2 _ rfl; (with_reducible repeat (first | refine blk_drewN ?_ _ | refine blk_drew ?_ | refine blk_alloc ?_ _)); refine blk_put (cs := #[.int .i64 a0, .int .i64 0, .slice none 0 0]) ?_ 1 _ rfl; (with_reducible repeat (first | refine blk_drewN ?_ _ | refine blk_drew ?_ | refine blk_alloc ?_ _)); refine blk_put (cs := #[.int .i64 0, .int .i64 0, .slice none 0 0]) ?_ 0 _ rfl; (with_reducible repeat (first | refine blk_drewN ?_ _ | refine blk_drew ?_ | refine blk_alloc ?_ _)); exact BK222.out) Try.underlying27 rfl (by kernel_rfl)) rfl ?_
 exact ⟨_, by first | rfl | (simp [errW_none, errW_some] <;> rfl) | (simp [*, errW_none, errW_some] <;> rfl), by (with_reducible repeat (first | apply Kd.N_alloc | apply Kd.N_drewN | apply Kd.N_drew)); exact Kd.N_mono (Kd.N_far (p := ⟨gb222, 2, none⟩) (Kd.N_far (p := ⟨gb222, 1, none⟩) (Kd.N_far (p := ⟨gb222, 0, none⟩) (Kd.N_mono HO225.out (fun k_ hk => (⟨hk, hk.2.2.2⟩ : _ ∧ k_ ≠ gb222))) (fun _ hk => hk.2) (.int .i64 a0)) (fun _ hk => hk.2) (.int .i64 0)) (fun _ hk => hk.2) (.slice Ao14 y223.length co14)) (fun _ hk => hk.1.1), by repeat (first | (with_reducible first | exact HB.out | apply below_alloc | apply pw_below_drewN | apply below_drew1 | refine below_set ?_ GE220.out | refine below_set ?_ GE221.out | refine below_set ?_ GE222.out) | exact HB.out)⟩
end Go.Proofs.Ythkclagcbjnckaa.Pa

