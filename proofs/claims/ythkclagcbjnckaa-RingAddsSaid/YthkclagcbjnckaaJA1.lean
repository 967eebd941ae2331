import Derived.Deep.RegionHeld3
import Derived.Deep.DeepCutAuto
import Derived.Deep.Light
import Derived.Test.YthkclagcbjnckaaJA0
set_option linter.unusedVariables false
set_option linter.unusedSimpArgs false
namespace Go.Proofs.Ythkclagcbjnckaa.Pa
open Go.RowKit Go.Proofs.RawMap Go.Proofs.YthkclagcbjnckaaW.PrintWords Go.Proofs.YthkclagcbjnckaaW.PrintLast Go.Proofs.YthkclagcbjnckaaW.PrintMore
inductive Ex where
  | num (n : Nat)
  | var (v : Fin 8)
  | add (a b : Ex)
  | mul (a b : Ex)
def ofEx : Ex → S27
  | .num n => ⟨1, n, []⟩
  | .var v => ⟨2, (v.val : Int), []⟩
  | .add a b => ⟨3, 0, [ofEx a, ofEx b]⟩
  | .mul a b => ⟨4, 0, [ofEx a, ofEx b]⟩
def Ex.top : Ex → Nat
  | .num n => n
  | .var _ => 0
  | .add a b => max a.top b.top
  | .mul a b => max a.top b.top
def zeros8 : List Int := [0, 0, 0, 0, 0, 0, 0, 0]
def unit8 (v : Fin 8) : List Int := zeros8.set v.val 1
def addPo (x y : Po) : Option Po := if fits (sumL (x ++ y)) = true then some (sumL (x ++ y)) else none
def mulPo (x y : Po) : Option Po := if (okMul x y && fits (sumL (prodL x y))) = true then some (sumL (prodL x y)) else none
def polyOf : Ex → Option Po
  | .num n => some (if n = 0 then [] else [(zeros8, (n : Int))])
  | .var v => some [(unit8 v, 1)]
  | .add a b => (polyOf a).bind fun x => (polyOf b).bind fun y => addPo x y
  | .mul a b => (polyOf a).bind fun x => (polyOf b).bind fun y => mulPo x y
theorem okMul_perm {p p' q q' : Po} (hp : p.Perm p') (hq : q.Perm q') : okMul p q = okMul p' q' := by
  unfold okMul
  rw [List.Perm.all_eq hp]
  congr 1
  funext x
  exact List.Perm.all_eq hq
theorem flatMap_perm {α β : Type} {f g : α → List β} (h : ∀ x, (f x).Perm (g x)) : ∀ l : List α, (l.flatMap f).Perm (l.flatMap g)
  | [] => List.Perm.refl _
  | a :: r => by
    rw [List.flatMap_cons, List.flatMap_cons]
    exact (h a).append (flatMap_perm h r)
theorem prodL_perm {p p' q q' : Po} (hp : p.Perm p') (hq : q.Perm q') : (prodL p q).Perm (prodL p' q') :=
  (List.Perm.flatMap_right _ hp).trans (flatMap_perm (fun _ => hq.map _) p')
structure NF (p : Po) : Prop where
  good : Good p
  len : p.length ≤ 200
theorem NF.sum {l : Po} (he : okE l) (hp : okP l) (h : fits (sumL l) = true) : NF (sumL l) := ⟨⟨okE_sumL l he, okP_sumL l hp, (fits_iff.1 h).1⟩, (fits_iff.1 h).2⟩
theorem nf_poly : ∀ (e : Ex) (p : Po), e.top ≤ 1000000000000000 → polyOf e = some p → NF p
  | .num n, p, ht, h => by
    simp only [polyOf, Option.some.injEq] at h
    subst h
    simp only [Ex.top] at ht
    by_cases h0 : n = 0
    · rw [if_pos h0]; exact ⟨⟨(fun m hm => by cases hm), (fun m hm => by cases hm), (fun m hm => by cases hm)⟩, by simp⟩
    · rw [if_neg h0]
      refine ⟨⟨fun m hm => ?_, fun m hm => ?_, fun m hm => ?_⟩, by simp⟩
      all_goals (simp only [List.mem_singleton] at hm; subst hm)
      · exact ⟨rfl, by simp [zeros8]⟩
      · simp; omega
      · simp; omega
  | .var v, p, ht, h => by
    simp only [polyOf, Option.some.injEq] at h
    subst h
    refine ⟨⟨fun m hm => ?_, fun m hm => ?_, fun m hm => ?_⟩, by simp⟩
    all_goals (simp only [List.mem_singleton] at hm; subst hm)
    · refine ⟨by simp [unit8, zeros8], fun x hx => ?_⟩
      rcases List.mem_or_eq_of_mem_set hx with hx | hx
      · simp [zeros8] at hx; omega
      · omega
    · simp
    · simp
  | .add a b, p, ht, h => by
    simp only [polyOf, Option.bind_eq_some_iff] at h
    obtain ⟨x, hx, y, hy, h⟩ := h
    simp only [Ex.top] at ht
    have h1 := nf_poly a x (by omega) hx
    have h2 := nf_poly b y (by omega) hy
    unfold addPo at h
    split at h
    · rename_i hf
      injection h with h
      subst h
      exact NF.sum (fun m hm => (List.mem_append.1 hm).elim (h1.good.ge m) (h2.good.ge m)) (fun m hm => (List.mem_append.1 hm).elim (h1.good.gp m) (h2.good.gp m)) hf
    · cases h
  | .mul a b, p, ht, h => by
    simp only [polyOf, Option.bind_eq_some_iff] at h
    obtain ⟨x, hx, y, hy, h⟩ := h
    simp only [Ex.top] at ht
    have h1 := nf_poly a x (by omega) hx
    have h2 := nf_poly b y (by omega) hy
    unfold mulPo at h
    split at h
    · rename_i hf
      injection h with h
      subst h
      rw [Bool.and_eq_true] at hf
      exact NF.sum (okE_prodL h1.good.ge h2.good.ge hf.1) (okP_prodL h1.good.gp h2.good.gp) hf.2
    · cases h
theorem good_perm {p q : Po} (h : p.Perm q) (g : Good p) : Good q := ⟨okE_perm h g.ge, okP_perm h g.gp, fun m hm => g.gc m (h.mem_iff.2 hm)⟩
def NormPost (e : Ex) (w : World) (en : Ending) (w' : World) : Prop :=
  ∃ r : Option Nat, en = .returned (.tuple #[.map r, .bool (polyOf e).isSome]) ∧ (∀ p, polyOf e = some p → ∃ b3 p', r = some b3 ∧ PIs w' b3 p' ∧ p'.Perm p) ∧ Below w.heap.size w w'
theorem add_some {e1 e2 : Ex} {x y p q l : Po} (hx : polyOf e1 = some x) (hy : polyOf e2 = some y) (hp : p.Perm x) (hq : q.Perm y) (hl : l.Perm (p ++ q)) :
    (polyOf (.add e1 e2)).isSome = fits (sumL l) ∧ ∀ z, polyOf (.add e1 e2) = some z → fits (sumL l) = true ∧ (sumL l).Perm z := by
  have h1 : (sumL l).Perm (sumL (x ++ y)) := sumL_perm (hl.trans (hp.append hq))
  have h2 := fits_perm h1
  simp only [polyOf, hx, hy, Option.bind_some, addPo]
  rw [h2]
  cases fits (sumL (x ++ y)) with
  | true => exact ⟨rfl, fun z hz => ⟨rfl, by injection hz with hz; rw [← hz]; exact h1⟩⟩
  | false => exact ⟨rfl, fun z hz => by cases hz⟩
theorem mul_some {e1 e2 : Ex} {x y p q l : Po} (hx : polyOf e1 = some x) (hy : polyOf e2 = some y) (hp : p.Perm x) (hq : q.Perm y) (hl : l.Perm (prodL p q)) :
    (polyOf (.mul e1 e2)).isSome = (okMul p q && fits (sumL l)) ∧ ∀ z, polyOf (.mul e1 e2) = some z → (okMul p q && fits (sumL l)) = true ∧ (sumL l).Perm z := by
  have h1 : (sumL l).Perm (sumL (prodL x y)) := sumL_perm (hl.trans (prodL_perm hp hq))
  have h2 := fits_perm h1
  have h3 := okMul_perm hp hq
  simp only [polyOf, hx, hy, Option.bind_some, mulPo]
  rw [h2, h3]
  cases okMul x y && fits (sumL (prodL x y)) with
  | true => exact ⟨rfl, fun z hz => ⟨rfl, by injection hz with hz; rw [← hz]; exact h1⟩⟩
  | false => exact ⟨rfl, fun z hz => by cases hz⟩
set_option maxRecDepth 100000 in
set_option maxHeartbeats 4000000 in
theorem normal_c (e : Ex) (he : e.top ≤ 1000000000000000) : ∀ (A : Option Addr) (c : Nat) (w : World), k27.C w A (ofEx e).f2.length (ofEx e).f2 → (ofEx e).f2.length ≤ c →
    Calls Try.prog 66 #[.agg #[.int .i64 (ofEx e).f0, .int .i64 (ofEx e).f1, .slice A (ofEx e).f2.length c]] w (NormPost e w) := by
  induction e with
  | num n =>
    intro A c w hC hc
    have hmm := @run_makeMap Try.prog
    simp only [ofEx]
    have hbel := Aside0.mk (Below.refl w.heap.size w)
    clear hC
    by_cases h0 : n = 0
    · subst h0
      go_enter Try.func66, Try.ntmps66
      go_wp2
      go_ret2
      exact ⟨_, rfl, (fun p hp => by
        simp only [polyOf, Option.some.injEq] at hp
        subst hp
        exact ⟨w.heap.size + 1, [], rfl, (by have := MapIs.made (w.alloc (.cells #[.int .i64 1, .int .i64 0, .slice A 0 c] 27)) VK; rwa [World.size_alloc] at this), List.Perm.refl _⟩), ((hbel.out.alloc (Nat.le_refl _) _).alloc (by simp) _)⟩
    · have b0 : ((n : Int) == 0) = false := by simp; omega
      obtain ⟨w1, hrun, hM, hg⟩ := MapIs.put_out (P := Try.prog) (t := 63) (key := keyV zeros8) ((MapIs.made (w.alloc (.cells #[.int .i64 1, .int .i64 n, .slice A 0 c] 27)) VK)) keyOk Try.underlying63 (VK_of rfl (by simp [zeros8])) (by simp) (.int .i64 n)
      have HM := Aside0.mk hM
      have hb : Below w.heap.size w w1 := (((Below.refl w.heap.size w).alloc (Nat.le_refl _) _).alloc (by simp) _).grown hg (by simp; omega) (fun k hk => by injection hk with hk; simp at hk; omega)
      have HB := Aside0.mk hb
      have e0 : keyV zeros8 = .agg #[.int .i64 0, .int .i64 0, .int .i64 0, .int .i64 0, .int .i64 0, .int .i64 0, .int .i64 0, .int .i64 0] := rfl
      rw [e0] at hrun
      simp only [World.size_alloc] at hrun
      have H0 := Aside0.mk h0
      clear hM hg hb e0 h0
      go_enter Try.func66, Try.ntmps66
      go_wp2
      go_ret2
      exact ⟨some (w.heap.size + 1), rfl, (fun p hp => by
        simp only [polyOf, Option.some.injEq] at hp
        rw [if_neg H0.out] at hp
        subst hp
        exact ⟨_, _, rfl, (by simpa [PIs, enc] using HM.out), List.Perm.refl _⟩), HB.out⟩
  | var v =>
    intro A c w hC hc
    have hmm := @run_makeMap Try.prog
    clear hC hc he
    obtain ⟨v, hv⟩ := v
    have h8 : v = 0 ∨ v = 1 ∨ v = 2 ∨ v = 3 ∨ v = 4 ∨ v = 5 ∨ v = 6 ∨ v = 7 := by omega
    rcases h8 with rfl | rfl | rfl | rfl | rfl | rfl | rfl | rfl
    all_goals simp only [ofEx]
    case inl =>
      obtain ⟨w1, hrun, hM, hg⟩ := MapIs.put_out (P := Try.prog) (t := 63) (key := keyV [1, 0, 0, 0, 0, 0, 0, 0]) ((MapIs.made ((w.alloc (.cells #[.int .i64 2, .int .i64 0, .slice A 0 c] 27)).alloc (.cells #[.int .i64 1, .int .i64 0, .int .i64 0, .int .i64 0, .int .i64 0, .int .i64 0, .int .i64 0, .int .i64 0] 76)) VK)) keyOk Try.underlying63 (VK_of rfl (by simp)) (by simp) (.int .i64 1)
      have HM := Aside0.mk hM
      have hb : Below w.heap.size w w1 := (((Below.refl w.heap.size w).alloc (Nat.le_refl _) _).alloc (by simp) _ |>.alloc (by simp; omega) _).grown hg (by simp; omega) (fun k hk => by injection hk with hk; simp at hk; omega)
      have HB := Aside0.mk hb
      have e0 : keyV [1, 0, 0, 0, 0, 0, 0, 0] = .agg #[.int .i64 1, .int .i64 0, .int .i64 0, .int .i64 0, .int .i64 0, .int .i64 0, .int .i64 0, .int .i64 0] := rfl
      rw [e0] at hrun
      simp only [World.size_alloc] at hrun
      clear hM hg hb e0
      go_enter Try.func66, Try.ntmps66
      go_wp2
      go_ret2
      exact ⟨some (w.heap.size + 1 + 1), rfl, (fun p hp => by
        simp only [polyOf, Option.some.injEq] at hp
        subst hp
        exact ⟨_, _, rfl, (by have := HM.out; simp only [World.size_alloc, List.nil_append] at this; exact this), List.Perm.refl _⟩), HB.out⟩
    case inr.inl =>
      obtain ⟨w1, hrun, hM, hg⟩ := MapIs.put_out (P := Try.prog) (t := 63) (key := keyV [0, 1, 0, 0, 0, 0, 0, 0]) ((MapIs.made ((w.alloc (.cells #[.int .i64 2, .int .i64 1, .slice A 0 c] 27)).alloc (.cells #[.int .i64 0, .int .i64 1, .int .i64 0, .int .i64 0, .int .i64 0, .int .i64 0, .int .i64 0, .int .i64 0] 76)) VK)) keyOk Try.underlying63 (VK_of rfl (by simp)) (by simp) (.int .i64 1)
      have HM := Aside0.mk hM
      have hb : Below w.heap.size w w1 := (((Below.refl w.heap.size w).alloc (Nat.le_refl _) _).alloc (by simp) _ |>.alloc (by simp; omega) _).grown hg (by simp; omega) (fun k hk => by injection hk with hk; simp at hk; omega)
      have HB := Aside0.mk hb
      have e0 : keyV [0, 1, 0, 0, 0, 0, 0, 0] = .agg #[.int .i64 0, .int .i64 1, .int .i64 0, .int .i64 0, .int .i64 0, .int .i64 0, .int .i64 0, .int .i64 0] := rfl
      rw [e0] at hrun
      simp only [World.size_alloc] at hrun
      clear hM hg hb e0
      go_enter Try.func66, Try.ntmps66
      go_wp2
      go_ret2
      exact ⟨some (w.heap.size + 1 + 1), rfl, (fun p hp => by
        simp only [polyOf, Option.some.injEq] at hp
        subst hp
        exact ⟨_, _, rfl, (by have := HM.out; simp only [World.size_alloc, List.nil_append] at this; exact this), List.Perm.refl _⟩), HB.out⟩
    case inr.inr.inl =>
      obtain ⟨w1, hrun, hM, hg⟩ := MapIs.put_out (P := Try.prog) (t := 63) (key := keyV [0, 0, 1, 0, 0, 0, 0, 0]) ((MapIs.made ((w.alloc (.cells #[.int .i64 2, .int .i64 2, .slice A 0 c] 27)).alloc (.cells #[.int .i64 0, .int .i64 0, .int .i64 1, .int .i64 0, .int .i64 0, .int .i64 0, .int .i64 0, .int .i64 0] 76)) VK)) keyOk Try.underlying63 (VK_of rfl (by simp)) (by simp) (.int .i64 1)
      have HM := Aside0.mk hM
      have hb : Below w.heap.size w w1 := (((Below.refl w.heap.size w).alloc (Nat.le_refl _) _).alloc (by simp) _ |>.alloc (by simp; omega) _).grown hg (by simp; omega) (fun k hk => by injection hk with hk; simp at hk; omega)
      have HB := Aside0.mk hb
      have e0 : keyV [0, 0, 1, 0, 0, 0, 0, 0] = .agg #[.int .i64 0, .int .i64 0, .int .i64 1, .int .i64 0, .int .i64 0, .int .i64 0, .int .i64 0, .int .i64 0] := rfl
      rw [e0] at hrun
      simp only [World.size_alloc] at hrun
      clear hM hg hb e0
      go_enter Try.func66, Try.ntmps66
      go_wp2
      go_ret2
      exact ⟨some (w.heap.size + 1 + 1), rfl, (fun p hp => by
        simp only [polyOf, Option.some.injEq] at hp
        subst hp
        exact ⟨_, _, rfl, (by have := HM.out; simp only [World.size_alloc, List.nil_append] at this; exact this), List.Perm.refl _⟩), HB.out⟩
    case inr.inr.inr.inl =>
      obtain ⟨w1, hrun, hM, hg⟩ := MapIs.put_out (P := Try.prog) (t := 63) (key := keyV [0, 0, 0, 1, 0, 0, 0, 0]) ((MapIs.made ((w.alloc (.cells #[.int .i64 2, .int .i64 3, .slice A 0 c] 27)).alloc (.cells #[.int .i64 0, .int .i64 0, .int .i64 0, .int .i64 1, .int .i64 0, .int .i64 0, .int .i64 0, .int .i64 0] 76)) VK)) keyOk Try.underlying63 (VK_of rfl (by simp)) (by simp) (.int .i64 1)
      have HM := Aside0.mk hM
      have hb : Below w.heap.size w w1 := (((Below.refl w.heap.size w).alloc (Nat.le_refl _) _).alloc (by simp) _ |>.alloc (by simp; omega) _).grown hg (by simp; omega) (fun k hk => by injection hk with hk; simp at hk; omega)
      have HB := Aside0.mk hb
      have e0 : keyV [0, 0, 0, 1, 0, 0, 0, 0] = .agg #[.int .i64 0, .int .i64 0, .int .i64 0, .int .i64 1, .int .i64 0, .int .i64 0, .int .i64 0, .int .i64 0] := rfl
      rw [e0] at hrun
      simp only [World.size_alloc] at hrun
      clear hM hg hb e0
      go_enter Try.func66, Try.ntmps66
      go_wp2
      go_ret2
      exact ⟨some (w.heap.size + 1 + 1), rfl, (fun p hp => by
        simp only [polyOf, Option.some.injEq] at hp
        subst hp
        exact ⟨_, _, rfl, (by have := HM.out; simp only [World.size_alloc, List.nil_append] at this; exact this), List.Perm.refl _⟩), HB.out⟩
    case inr.inr.inr.inr.inl =>
      obtain ⟨w1, hrun, hM, hg⟩ := MapIs.put_out (P := Try.prog) (t := 63) (key := keyV [0, 0, 0, 0, 1, 0, 0, 0]) ((MapIs.made ((w.alloc (.cells #[.int .i64 2, .int .i64 4, .slice A 0 c] 27)).alloc (.cells #[.int .i64 0, .int .i64 0, .int .i64 0, .int .i64 0, .int .i64 1, .int .i64 0, .int .i64 0, .int .i64 0] 76)) VK)) keyOk Try.underlying63 (VK_of rfl (by simp)) (by simp) (.int .i64 1)
      have HM := Aside0.mk hM
      have hb : Below w.heap.size w w1 := (((Below.refl w.heap.size w).alloc (Nat.le_refl _) _).alloc (by simp) _ |>.alloc (by simp; omega) _).grown hg (by simp; omega) (fun k hk => by injection hk with hk; simp at hk; omega)
      have HB := Aside0.mk hb
      have e0 : keyV [0, 0, 0, 0, 1, 0, 0, 0] = .agg #[.int .i64 0, .int .i64 0, .int .i64 0, .int .i64 0, .int .i64 1, .int .i64 0, .int .i64 0, .int .i64 0] := rfl
      rw [e0] at hrun
      simp only [World.size_alloc] at hrun
      clear hM hg hb e0
      go_enter Try.func66, Try.ntmps66
      go_wp2
      go_ret2
      exact ⟨some (w.heap.size + 1 + 1), rfl, (fun p hp => by
        simp only [polyOf, Option.some.injEq] at hp
        subst hp
        exact ⟨_, _, rfl, (by have := HM.out; simp only [World.size_alloc, List.nil_append] at this; exact this), List.Perm.refl _⟩), HB.out⟩
    case inr.inr.inr.inr.inr.inl =>
      obtain ⟨w1, hrun, hM, hg⟩ := MapIs.put_out (P := Try.prog) (t := 63) (key := keyV [0, 0, 0, 0, 0, 1, 0, 0]) ((MapIs.made ((w.alloc (.cells #[.int .i64 2, .int .i64 5, .slice A 0 c] 27)).alloc (.cells #[.int .i64 0, .int .i64 0, .int .i64 0, .int .i64 0, .int .i64 0, .int .i64 1, .int .i64 0, .int .i64 0] 76)) VK)) keyOk Try.underlying63 (VK_of rfl (by simp)) (by simp) (.int .i64 1)
      have HM := Aside0.mk hM
      have hb : Below w.heap.size w w1 := (((Below.refl w.heap.size w).alloc (Nat.le_refl _) _).alloc (by simp) _ |>.alloc (by simp; omega) _).grown hg (by simp; omega) (fun k hk => by injection hk with hk; simp at hk; omega)
      have HB := Aside0.mk hb
      have e0 : keyV [0, 0, 0, 0, 0, 1, 0, 0] = .agg #[.int .i64 0, .int .i64 0, .int .i64 0, .int .i64 0, .int .i64 0, .int .i64 1, .int .i64 0, .int .i64 0] := rfl
      rw [e0] at hrun
      simp only [World.size_alloc] at hrun
      clear hM hg hb e0
      go_enter Try.func66, Try.ntmps66
      go_wp2
      go_ret2
      exact ⟨some (w.heap.size + 1 + 1), rfl, (fun p hp => by
        simp only [polyOf, Option.some.injEq] at hp
        subst hp
        exact ⟨_, _, rfl, (by have := HM.out; simp only [World.size_alloc, List.nil_append] at this; exact this), List.Perm.refl _⟩), HB.out⟩
    case inr.inr.inr.inr.inr.inr.inl =>
      obtain ⟨w1, hrun, hM, hg⟩ := MapIs.put_out (P := Try.prog) (t := 63) (key := keyV [0, 0, 0, 0, 0, 0, 1, 0]) ((MapIs.made ((w.alloc (.cells #[.int .i64 2, .int .i64 6, .slice A 0 c] 27)).alloc (.cells #[.int .i64 0, .int .i64 0, .int .i64 0, .int .i64 0, .int .i64 0, .int .i64 0, .int .i64 1, .int .i64 0] 76)) VK)) keyOk Try.underlying63 (VK_of rfl (by simp)) (by simp) (.int .i64 1)
      have HM := Aside0.mk hM
      have hb : Below w.heap.size w w1 := (((Below.refl w.heap.size w).alloc (Nat.le_refl _) _).alloc (by simp) _ |>.alloc (by simp; omega) _).grown hg (by simp; omega) (fun k hk => by injection hk with hk; simp at hk; omega)
      have HB := Aside0.mk hb
      have e0 : keyV [0, 0, 0, 0, 0, 0, 1, 0] = .agg #[.int .i64 0, .int .i64 0, .int .i64 0, .int .i64 0, .int .i64 0, .int .i64 0, .int .i64 1, .int .i64 0] := rfl
      rw [e0] at hrun
      simp only [World.size_alloc] at hrun
      clear hM hg hb e0
      go_enter Try.func66, Try.ntmps66
      go_wp2
      go_ret2
      exact ⟨some (w.heap.size + 1 + 1), rfl, (fun p hp => by
        simp only [polyOf, Option.some.injEq] at hp
        subst hp
        exact ⟨_, _, rfl, (by have := HM.out; simp only [World.size_alloc, List.nil_append] at this; exact this), List.Perm.refl _⟩), HB.out⟩
    case inr.inr.inr.inr.inr.inr.inr =>
      obtain ⟨w1, hrun, hM, hg⟩ := MapIs.put_out (P := Try.prog) (t := 63) (key := keyV [0, 0, 0, 0, 0, 0, 0, 1]) ((MapIs.made ((w.alloc (.cells #[.int .i64 2, .int .i64 7, .slice A 0 c] 27)).alloc (.cells #[.int .i64 0, .int .i64 0, .int .i64 0, .int .i64 0, .int .i64 0, .int .i64 0, .int .i64 0, .int .i64 1] 76)) VK)) keyOk Try.underlying63 (VK_of rfl (by simp)) (by simp) (.int .i64 1)
      have HM := Aside0.mk hM
      have hb : Below w.heap.size w w1 := (((Below.refl w.heap.size w).alloc (Nat.le_refl _) _).alloc (by simp) _ |>.alloc (by simp; omega) _).grown hg (by simp; omega) (fun k hk => by injection hk with hk; simp at hk; omega)
      have HB := Aside0.mk hb
      have e0 : keyV [0, 0, 0, 0, 0, 0, 0, 1] = .agg #[.int .i64 0, .int .i64 0, .int .i64 0, .int .i64 0, .int .i64 0, .int .i64 0, .int .i64 0, .int .i64 1] := rfl
      rw [e0] at hrun
      simp only [World.size_alloc] at hrun
      clear hM hg hb e0
      go_enter Try.func66, Try.ntmps66
      go_wp2
      go_ret2
      exact ⟨some (w.heap.size + 1 + 1), rfl, (fun p hp => by
        simp only [polyOf, Option.some.injEq] at hp
        subst hp
        exact ⟨_, _, rfl, (by have := HM.out; simp only [World.size_alloc, List.nil_append] at this; exact this), List.Perm.refl _⟩), HB.out⟩
  | add a b iha ihb =>
    intro A c w hC hc
    have hta : a.top ≤ 1000000000000000 := by simp only [Ex.top] at he; omega
    have htb : b.top ≤ 1000000000000000 := by simp only [Ex.top] at he; omega
    have IA := Aside0.mk (iha hta)
    have IB := Aside0.mk (ihb htb)
    have NA := Aside0.mk (fun p => nf_poly a p hta)
    have NB := Aside0.mk (fun p => nf_poly b p htb)
    simp only [ofEx] at hC ⊢
    have hC1 := Kd.C_below hC (below_alloc (Below.refl _ _) (.cells #[.int .i64 3, .int .i64 0, .slice A 2 c] 27))
    obtain ⟨ad, A0, c0, rfl, p0, p1, p2, p3, p4⟩ := at_T27 hC1 0 (by omega) (by simp)
    obtain ⟨ad1, A1, c1, e1, q0, q1, q2, q3, q4⟩ := at_T27 hC1 1 (by omega) (by simp)
    injection e1 with e1
    subst e1
    have ea0 : ad.add 0 = ad := by simp [Addr.add]
    have ea3 : ad.add 3 = ⟨ad.block, ad.off + 3, none⟩ := by simp [Addr.add]
    simp only [Int.toNat_zero, Nat.zero_mul, ea0, show Int.toNat 1 * 3 = 3 from rfl, ea3] at p0 p1 p2 q0 q1 q2
    rw [show rd_T27 [ofEx a, ofEx b] 0 = ofEx a from rfl] at p0 p1 p2 p3 p4
    rw [show rd_T27 [ofEx a, ofEx b] 1 = ofEx b from rfl] at q0 q1 q2 q3 q4
    have P3 := Aside0.mk p3
    have P4 := Aside0.mk p4
    have Q3 := Aside0.mk q3
    have Q4 := Aside0.mk q4
    clear iha ihb he hta htb hC hC1 hc p3 p4 q3 q4 ea0 ea3
    go_enter Try.func66, Try.ntmps66
    go_wp2_with fail
    refine (IA.out A0 c0 _ P4.out P3.out).mono ?_
    rintro e w2 ⟨ra, rfl, hra, hba⟩
    have HBA := Aside0.mk hba
    have HB2 := Aside0.mk (below_then (below_alloc (Below.refl w.heap.size w) (.cells #[.int .i64 3, .int .i64 0, .slice (some ad) 2 c] 27)) (by simp) hba)
    have bx : w2.heap[w.heap.size]? = some (.cells #[.int .i64 3, .int .i64 0, .slice (some ad) 2 c] 27 (0, 0)) := by rw [hba.block _ (by simp)]; exact heap_alloc_new _ _
    have bx0 := (blk_cell bx 0).trans rfl
    have bx2 := (blk_cell bx 2).trans rfl
    have q0 := pw_cell_below hba q0
    have q1 := pw_cell_below hba q1
    have q2 := pw_cell_below hba q2
    have Q4 := Aside0.mk (Kd.C_below Q4.out hba)
    have BX := Aside0.mk bx
    have RA := Aside0.mk hra
    obtain ⟨oa, hoa⟩ : ∃ oa, oa = (polyOf a).isSome := ⟨_, rfl⟩
    rw [← hoa]
    have OA := Aside0.mk hoa
    clear hba hra bx hoa p0 p1 p2
    go_wp2_with fail
    refine (IB.out A1 c1 _ Q4.out Q3.out).mono ?_
    rintro e w3 ⟨rb, rfl, hrb, hbb⟩
    have HB3 := Aside0.mk (below_then HB2.out HB2.out.size hbb)
    have bx : w3.heap[w.heap.size]? = some (.cells #[.int .i64 3, .int .i64 0, .slice (some ad) 2 c] 27 (0, 0)) := (hbb.block _ (blk_lt BX.out)).trans BX.out
    have bx0 := (blk_cell bx 0).trans rfl
    have HBB := Aside0.mk hbb
    have RB := Aside0.mk hrb
    obtain ⟨ob, hob⟩ : ∃ ob, ob = (polyOf b).isSome := ⟨_, rfl⟩
    rw [← hob]
    have OB := Aside0.mk hob
    clear hbb hrb bx hob q0 q1 q2 bx2
    cases oa with
    | false =>
      go_wp2
      go_ret2
      have hn : polyOf a = none := by have := OA.out; cases h : polyOf a with | none => rfl | some x => rw [h] at this; cases this
      exact ⟨none, (by simp [polyOf, hn]), (fun p hp => by simp [polyOf, hn] at hp), HB3.out⟩
    | true =>
      cases ob with
      | false =>
        go_wp2
        go_ret2
        have hn : polyOf b = none := by have := OB.out; cases h : polyOf b with | none => rfl | some x => rw [h] at this; cases this
        exact ⟨none, (by simp [polyOf, hn]), (fun p hp => by simp [polyOf, hn] at hp), HB3.out⟩
      | true =>
        obtain ⟨x, hx⟩ : ∃ x, polyOf a = some x := by have := OA.out; cases h : polyOf a with | none => rw [h] at this; cases this | some x => exact ⟨x, rfl⟩
        obtain ⟨y, hy⟩ : ∃ y, polyOf b = some y := by have := OB.out; cases h : polyOf b with | none => rw [h] at this; cases this | some x => exact ⟨x, rfl⟩
        obtain ⟨ba, pa, rfl, hpa, hpx⟩ := RA.out x hx
        obtain ⟨bb, pb, rfl, hpb, hpy⟩ := RB.out y hy
        have hpa3 := hpa.kept (grown_of_below HBB.out none) (by simp)
        have HC := Aside0.mk (plus_c ba bb pa pb w3 hpa3 hpb (good_perm hpx.symm (NA.out x hx).good) (good_perm hpy.symm (NB.out y hy).good))
        have HX := Aside0.mk hx
        have HY := Aside0.mk hy
        have PX := Aside0.mk hpx
        have PY := Aside0.mk hpy
        clear hx hy hpa hpb hpa3 hpx hpy
        go_wp2_with fail
        refine HC.out.mono ?_
        rintro e w4 ⟨l, r, hl, rfl, hr, hbd⟩
        have HD := Aside0.mk (below_then HB3.out HB3.out.size hbd)
        have SM := Aside0.mk (add_some HX.out HY.out PX.out PY.out hl)
        have HR := Aside0.mk hr
        clear hl hr hbd
        go_wp2
        go_ret2
        exact ⟨r, by rw [SM.out.1]; rfl, (fun p hp => by
          obtain ⟨h1, h2⟩ := SM.out.2 p hp
          obtain ⟨b3, h3, _, h4⟩ := HR.out h1
          exact ⟨b3, _, h3, h4, h2⟩), HD.out⟩
  | mul a b iha ihb =>
    intro A c w hC hc
    have hta : a.top ≤ 1000000000000000 := by simp only [Ex.top] at he; omega
    have htb : b.top ≤ 1000000000000000 := by simp only [Ex.top] at he; omega
    have IA := Aside0.mk (iha hta)
    have IB := Aside0.mk (ihb htb)
    have NA := Aside0.mk (fun p => nf_poly a p hta)
    have NB := Aside0.mk (fun p => nf_poly b p htb)
    simp only [ofEx] at hC ⊢
    have hC1 := Kd.C_below hC (below_alloc (Below.refl _ _) (.cells #[.int .i64 4, .int .i64 0, .slice A 2 c] 27))
    obtain ⟨ad, A0, c0, rfl, p0, p1, p2, p3, p4⟩ := at_T27 hC1 0 (by omega) (by simp)
    obtain ⟨ad1, A1, c1, e1, q0, q1, q2, q3, q4⟩ := at_T27 hC1 1 (by omega) (by simp)
    injection e1 with e1
    subst e1
    have ea0 : ad.add 0 = ad := by simp [Addr.add]
    have ea3 : ad.add 3 = ⟨ad.block, ad.off + 3, none⟩ := by simp [Addr.add]
    simp only [Int.toNat_zero, Nat.zero_mul, ea0, show Int.toNat 1 * 3 = 3 from rfl, ea3] at p0 p1 p2 q0 q1 q2
    rw [show rd_T27 [ofEx a, ofEx b] 0 = ofEx a from rfl] at p0 p1 p2 p3 p4
    rw [show rd_T27 [ofEx a, ofEx b] 1 = ofEx b from rfl] at q0 q1 q2 q3 q4
    have P3 := Aside0.mk p3
    have P4 := Aside0.mk p4
    have Q3 := Aside0.mk q3
    have Q4 := Aside0.mk q4
    clear iha ihb he hta htb hC hC1 hc p3 p4 q3 q4 ea0 ea3
    go_enter Try.func66, Try.ntmps66
    go_wp2_with fail
    refine (IA.out A0 c0 _ P4.out P3.out).mono ?_
    rintro e w2 ⟨ra, rfl, hra, hba⟩
    have HBA := Aside0.mk hba
    have HB2 := Aside0.mk (below_then (below_alloc (Below.refl w.heap.size w) (.cells #[.int .i64 4, .int .i64 0, .slice (some ad) 2 c] 27)) (by simp) hba)
    have bx : w2.heap[w.heap.size]? = some (.cells #[.int .i64 4, .int .i64 0, .slice (some ad) 2 c] 27 (0, 0)) := by rw [hba.block _ (by simp)]; exact heap_alloc_new _ _
    have bx0 := (blk_cell bx 0).trans rfl
    have bx2 := (blk_cell bx 2).trans rfl
    have q0 := pw_cell_below hba q0
    have q1 := pw_cell_below hba q1
    have q2 := pw_cell_below hba q2
    have Q4 := Aside0.mk (Kd.C_below Q4.out hba)
    have BX := Aside0.mk bx
    have RA := Aside0.mk hra
    obtain ⟨oa, hoa⟩ : ∃ oa, oa = (polyOf a).isSome := ⟨_, rfl⟩
    rw [← hoa]
    have OA := Aside0.mk hoa
    clear hba hra bx hoa p0 p1 p2
    go_wp2_with fail
    refine (IB.out A1 c1 _ Q4.out Q3.out).mono ?_
    rintro e w3 ⟨rb, rfl, hrb, hbb⟩
    have HB3 := Aside0.mk (below_then HB2.out HB2.out.size hbb)
    have bx : w3.heap[w.heap.size]? = some (.cells #[.int .i64 4, .int .i64 0, .slice (some ad) 2 c] 27 (0, 0)) := (hbb.block _ (blk_lt BX.out)).trans BX.out
    have bx0 := (blk_cell bx 0).trans rfl
    have HBB := Aside0.mk hbb
    have RB := Aside0.mk hrb
    obtain ⟨ob, hob⟩ : ∃ ob, ob = (polyOf b).isSome := ⟨_, rfl⟩
    rw [← hob]
    have OB := Aside0.mk hob
    clear hbb hrb bx hob q0 q1 q2 bx2
    cases oa with
    | false =>
      go_wp2
      go_ret2
      have hn : polyOf a = none := by have := OA.out; cases h : polyOf a with | none => rfl | some x => rw [h] at this; cases this
      exact ⟨none, (by simp [polyOf, hn]), (fun p hp => by simp [polyOf, hn] at hp), HB3.out⟩
    | true =>
      cases ob with
      | false =>
        go_wp2
        go_ret2
        have hn : polyOf b = none := by have := OB.out; cases h : polyOf b with | none => rfl | some x => rw [h] at this; cases this
        exact ⟨none, (by simp [polyOf, hn]), (fun p hp => by simp [polyOf, hn] at hp), HB3.out⟩
      | true =>
        obtain ⟨x, hx⟩ : ∃ x, polyOf a = some x := by have := OA.out; cases h : polyOf a with | none => rw [h] at this; cases this | some x => exact ⟨x, rfl⟩
        obtain ⟨y, hy⟩ : ∃ y, polyOf b = some y := by have := OB.out; cases h : polyOf b with | none => rw [h] at this; cases this | some x => exact ⟨x, rfl⟩
        obtain ⟨ba, pa, rfl, hpa, hpx⟩ := RA.out x hx
        obtain ⟨bb, pb, rfl, hpb, hpy⟩ := RB.out y hy
        have hpa3 := hpa.kept (grown_of_below HBB.out none) (by simp)
        have HC := Aside0.mk (product_c ba bb pa pb w3 hpa3 hpb (good_perm hpx.symm (NA.out x hx).good) (good_perm hpy.symm (NB.out y hy).good))
        have HX := Aside0.mk hx
        have HY := Aside0.mk hy
        have PX := Aside0.mk hpx
        have PY := Aside0.mk hpy
        clear hx hy hpa hpb hpa3 hpx hpy
        go_wp2_with fail
        refine HC.out.mono ?_
        rintro e w4 ⟨l, r, hl, rfl, hr, hbd⟩
        have HD := Aside0.mk (below_then HB3.out HB3.out.size hbd)
        have SM := Aside0.mk (mul_some HX.out HY.out PX.out PY.out hl)
        have HR := Aside0.mk hr
        clear hl hr hbd
        go_wp2
        go_ret2
        exact ⟨r, by rw [SM.out.1]; rfl, (fun p hp => by
          obtain ⟨h1, h2⟩ := SM.out.2 p hp
          obtain ⟨b3, h3, _, h4⟩ := HR.out h1
          exact ⟨b3, _, h3, h4, h2⟩), HD.out⟩
end Go.Proofs.Ythkclagcbjnckaa.Pa


namespace Go.Proofs.Ythkclagcbjnckaa.Pa
open Go.RowKit Go.Proofs.YthkclagcbjnckaaW.PrintWords Go.Proofs.YthkclagcbjnckaaW.PrintLast Go.Proofs.YthkclagcbjnckaaW.PrintMore
attribute [local go_sem] max2_int min2_int max_two min_two max_three min_three max_four min_four
set_option linter.unusedVariables false
set_option linter.unusedSimpArgs false
mutual
def ring_sizeOf.l0 : Nat → Int → Int → List (S27) → Int → Int → Option (Int × Int)
 | 0, _, _, _, _, _ => none
 | k + 1, x2, x3, x9, x10, x11 => if x11 < x10 then (if 0 ≤ x11 then (if x11 < (x9.length : Int) then ((ring_sizeOf.f k ((rd_T27 x9 x11).f0) ((rd_T27 x9 x11).f1) ((rd_T27 x9 x11).f2)).bind fun bt135 => (ring_sizeOf.l0 k (wrap64 (x2 + bt135.1)) (mx x3 bt135.2) x9 x10 (wrap64 (x11 + 1)))) else (none)) else (none)) else (some (wrap64 (x2 + 1), wrap64 (x3 + 1)))
def ring_sizeOf.f : Nat → Int → Int → List (S27) → Option (Int × Int)
 | 0, _, _, _ => none
 | k + 1, a0_0, a0_1, l0_2 => ring_sizeOf.l0 k 0 0 l0_2 (l0_2.length : Int) 0
end
set_option maxHeartbeats 8000000 in
set_option maxRecDepth 100000 in
theorem ring_sizeOf.calls (k : Nat) : ∀ (a0_0 : Int) (a0_1 : Int) (A0_2 : Option Addr) (c0_2 : Nat) (l0_2 : List (S27)) (r1 : Int) (r2 : Int) (w : World) (hr0_2 : Kd.C k27 w A0_2 l0_2.length l0_2) (hc0_2 : l0_2.length ≤ c0_2) (h : ring_sizeOf.f k a0_0 a0_1 l0_2 = some (r1, r2)),
  Calls Try.prog 48 #[.agg #[.int .i64 a0_0, .int .i64 a0_1, .slice A0_2 l0_2.length c0_2]] w fun e w' => e = .returned (.tuple #[.int .i64 r1, .int .i64 r2]) ∧ Below w.heap.size w w' := by
 induction k using Nat.strongRecOn with
 | _ k ih =>
 intro a0_0 a0_1 A0_2 c0_2 l0_2 r1 r2 w hr0_2 hc0_2 h
 cases k with
 | zero => exact absurd h (by simp [ring_sizeOf.f])
 | succ k =>
 simp only [ring_sizeOf.f] at h
 have hu27 := Try.underlying27
 have HR0_2 := Aside0.mk hr0_2
 have HC0_2 := Aside0.mk hc0_2
 clear hr0_2 hc0_2
 have HB := Aside0.mk (Below.refl w.heap.size w)
 have H : (ring_sizeOf.l0 k 0 0 l0_2 (l0_2.length : Int) 0) = some (r1, r2) := h
 clear h
 have H' := Aside0.mk H
 clear H
 go_enter Try.func48, Try.ntmps48
 go_wp2_with (first | ((with_reducible refine gate_dst (N := 1) rfl ?_); refine box_event ?hg (N := 1) ?hd (cs := #[.int .i64 a0_0, .int .i64 a0_1, .slice A0_2 l0_2.length c0_2]) (t := 27) ?hr ?_; (case hd => rfl); (case hg => rfl); (case hr => first | (go_simp; done) | (go_simp; rfl)); intro gb132 hg w2 hbox hb; have n0_ := Aside0.mk (below_step (by repeat (first | (with_reducible first | exact HB.out | apply below_alloc | apply pw_below_drewN | apply below_drew1) | exact HB.out)) hb); have n1_ := Aside0.mk (hbox); have n2_ := Aside0.mk ((by rw [hg]; exact (below_size (by repeat (first | (with_reducible first | exact HB.out | apply below_alloc | apply pw_below_drewN | apply below_drew1) | exact HB.out))) : w.heap.size ≤ gb132)); have n3_ := Aside0.mk ((by rw [hg]; exact (below_size (by repeat (first | (with_reducible first | exact HB.out | apply below_alloc | apply pw_below_drewN | apply below_drew1) | exact HB.out))) : w.heap.size ≤ gb132)); clear HB; have HB := n0_; have BK132 := n1_; have GW132 := n2_; have GE132 := n3_; clear n0_ n1_ n2_ n3_; clear hb hbox hg; have hcz3_0 : w2.cell? ⟨gb132, 0, none⟩ = some (.int .i64 a0_0) := (blk_cell BK132.out 0).trans rfl; have hcz3_1 : w2.cell? ⟨gb132, 1, none⟩ = some (.int .i64 a0_1) := (blk_cell BK132.out 1).trans rfl; have hcz3_2 : w2.cell? ⟨gb132, 2, none⟩ = some (.slice A0_2 l0_2.length c0_2) := (blk_cell BK132.out 2).trans rfl; have hfz3_0 := blk_frozen BK132.out 0; have hfz3_1 := blk_frozen BK132.out 1; have hfz3_2 := blk_frozen BK132.out 2))
 go_loopg [2, 3, 11] k (fun kq v2 v3 v11 w' => ∃ (x2_1 : Int) (x3_1 : Int) (x11_1 : Int), v2 = .int .i64 x2_1 ∧ v3 = .int .i64 x3_1 ∧ v11 = .int .i64 x11_1 ∧ Aside0 (ring_sizeOf.l0 kq x2_1 x3_1 l0_2 (l0_2.length : Int) x11_1 = some (r1, r2)) ∧ Aside0 (kq ≤ k) ∧ Aside0 (w'.heap[gb132]? = some (.cells #[.int .i64 a0_0, .int .i64 a0_1, (.slice A0_2 l0_2.length c0_2)] 27 (0, 0))) ∧ Aside0 (Below w.heap.size w w'))
 case atStart => exact ⟨(0), (0), (0), (by first | rfl | (simp; done) | (simp [*]; done)), (by first | rfl | (simp; done) | (simp [*]; done)), (by first | rfl | (simp; done) | (simp [*]; done)), H', ⟨Nat.le_refl _⟩, ⟨by (with_reducible repeat (first | refine blk_drewN ?_ _ | refine blk_drew ?_ | refine blk_alloc ?_ _)); exact BK132.out⟩, ⟨by repeat (first | (with_reducible first | exact HB.out | apply below_alloc | apply pw_below_drewN | apply below_drew1 | refine below_set ?_ GE132.out) | exact HB.out)⟩⟩
 case round =>
  clear H'
  try clear p2
  try clear hcz3_0
  try clear hcz3_1
  try clear hcz3_2
  try clear hfz3_0
  try clear hfz3_1
  try clear hfz3_2
  obtain ⟨x2_1, x3_1, x11_1, rfl, rfl, rfl, HA, HK1, BK132, HB⟩ := hrel
  cases gk with
  | zero => exact absurd HA.out (by simp [ring_sizeOf.l0])
  | succ k1 =>
   have H := HA.out
   clear HA
   simp only [ring_sizeOf.l0] at H
   by_cases c4 : x11_1 < (l0_2.length : Int)
   ·rw [if_pos c4] at H
    have c4b0 : decide (x11_1 < (l0_2.length : Int)) = true := decide_eq_true c4
    clear c4
    by_cases c5 : 0 ≤ x11_1
    ·rw [if_pos c5] at H
     have c5b0 : decide (0 ≤ x11_1) = true := decide_eq_true c5
     clear c5
     by_cases c6 : x11_1 < (l0_2.length : Int)
     ·rw [if_pos c6] at H
      have c6b0 : decide (x11_1 < (l0_2.length : Int)) = true := decide_eq_true c6
      clear c6
      replace H := Option.bind_eq_some_iff.mp H
      obtain ⟨⟨t135, t136⟩, A70, H⟩ := H
      replace H : (ring_sizeOf.l0 k1 (wrap64 (x2_1 + t135)) (mx x3_1 t136) l0_2 (l0_2.length : Int) (wrap64 (x11_1 + 1))) = some (r1, r2) := H
      have A7 := Aside0.mk A70
      clear A70
      obtain ⟨ji8, hji8⟩ : ∃ j_ : Int, (mx x3_1 t136) = j_ := ⟨_, rfl⟩
      replace H : (ring_sizeOf.l0 k1 (wrap64 (x2_1 + t135)) ji8 l0_2 (l0_2.length : Int) (wrap64 (x11_1 + 1))) = some (r1, r2) := by first | (rw [hji8] at H; exact H) | (simp only [hji8] at H ⊢; exact H)
      (try rw [hji8] at A7)
      have hji8_ : (if x3_1 < t136 then t136 else x3_1) = ji8 := hji8
      have H' := Aside0.mk H
      clear H
      have p133 : 0 ≤ (x11_1 : Int) := of_decide_eq_true (by first | (with_reducible assumption) | assumption)
      have q133 : x11_1 < (l0_2.length : Int) := of_decide_eq_true (by first | (with_reducible assumption) | assumption)
      obtain ⟨ad133, A133_2, c133_2, e133, hx133_0, hx133_1, hx133_2, hl133_2, hi133_2⟩ := at_T27 HR0_2.out x11_1 p133 q133
      cases e133
      replace hx133_0 := (HB.out.cell (World.block_lt_of_cell? w _ hx133_0)).trans hx133_0
      replace hx133_1 := (HB.out.cell (World.block_lt_of_cell? w _ hx133_1)).trans hx133_1
      replace hx133_2 := (HB.out.cell (World.block_lt_of_cell? w _ hx133_2)).trans hx133_2
      have HR133_2 := Aside0.mk hi133_2
      have HC133_2 := Aside0.mk hl133_2
      clear hi133_2 hl133_2
      replace p133 := eq_true p133
      replace q133 := eq_true q133
      go_wp2_with (first | ((with_reducible refine gate_dst (N := 5) rfl ?_); refine box_event ?hg (N := 5) ?hd (cs := #[.int .i64 0, .int .i64 0, .slice none 0 0]) (t := 27) ?hr ?_; (case hd => rfl); (case hg => rfl); (case hr => first | (go_simp; done) | (go_simp; rfl)); intro gb134 hg w9 hbox hb; have n0_ := Aside0.mk (blk_below (g := gb132) (o := .cells #[.int .i64 a0_0, .int .i64 a0_1, .slice (some ad133) l0_2.length c0_2] 27 (0, 0)) (by (with_reducible repeat (first | refine blk_drewN ?_ _ | refine blk_drew ?_ | refine blk_alloc ?_ _)); exact BK132.out) hb); have n1_ := Aside0.mk (below_step (by repeat (first | (with_reducible first | exact HB.out | apply below_alloc | apply pw_below_drewN | apply below_drew1 | refine below_set ?_ GE132.out) | exact HB.out)) hb); have n2_ := Aside0.mk (hbox); have n3_ := Aside0.mk ((by rw [hg]; exact (below_size (by repeat (first | (with_reducible first | exact HB.out | apply below_alloc | apply pw_below_drewN | apply below_drew1 | refine below_set ?_ GE132.out) | exact HB.out))) : w.heap.size ≤ gb134)); have n4_ := Aside0.mk ((by rw [hg]; exact (below_size (by repeat (first | (with_reducible first | exact HB.out | apply below_alloc | apply pw_below_drewN | apply below_drew1 | refine below_set ?_ GE132.out) | exact HB.out))) : w.heap.size ≤ gb134)); have n5_ := Aside0.mk ((by rw [hg]; exact Nat.ne_of_lt (blk_lt (g := gb132) (o := .cells #[.int .i64 a0_0, .int .i64 a0_1, .slice (some ad133) l0_2.length c0_2] 27 (0, 0)) (by (with_reducible repeat (first | refine blk_drewN ?_ _ | refine blk_drew ?_ | refine blk_alloc ?_ _)); exact BK132.out)) : gb132 ≠ gb134)); have n6_ := Aside0.mk ((by rw [hg]; exact Nat.ne_of_gt (blk_lt (g := gb132) (o := .cells #[.int .i64 a0_0, .int .i64 a0_1, .slice (some ad133) l0_2.length c0_2] 27 (0, 0)) (by (with_reducible repeat (first | refine blk_drewN ?_ _ | refine blk_drew ?_ | refine blk_alloc ?_ _)); exact BK132.out)) : gb134 ≠ gb132)); clear BK132; clear HB; have BK132 := n0_; have HB := n1_; have BK134 := n2_; have GW134 := n3_; have GE134 := n4_; have NB132_134 := n5_; have NB134_132 := n6_; clear n0_ n1_ n2_ n3_ n4_ n5_ n6_; clear hb hbox hg; have hnb10 := NB134_132.out; have hnc10 := NB132_134.out; have hcz11_0 : w9.cell? ⟨gb134, 0, none⟩ = some (.int .i64 0) := (blk_cell BK134.out 0).trans rfl; have hcz11_1 : w9.cell? ⟨gb134, 1, none⟩ = some (.int .i64 0) := (blk_cell BK134.out 1).trans rfl; have hcz11_2 : w9.cell? ⟨gb134, 2, none⟩ = some (.slice none 0 0) := (blk_cell BK134.out 2).trans rfl; have hfz11_0 := blk_frozen BK134.out 0; have hfz11_1 := blk_frozen BK134.out 1; have hfz11_2 := blk_frozen BK134.out 2) | ((with_reducible refine gate_callee (f := 48) rfl ?_); refine goesL_ (some 17) rfl rfl Try.func48 (by kernel_rfl) rfl #[.agg #[.int .i64 ((rd_T27 l0_2 x11_1).f0), .int .i64 ((rd_T27 l0_2 x11_1).f1), .slice A133_2 ((rd_T27 l0_2 x11_1).f2).length c133_2]] rfl (by (try simp only [List.map_toArray, List.map_cons, List.map_nil]); first | done | rfl | (simp only [List.length_drop, List.length_take]; rfl)) ?_; (with_reducible refine (ih k1 (by have := HK1.out; omega) ((rd_T27 l0_2 x11_1).f0) ((rd_T27 l0_2 x11_1).f1) _ _ ((rd_T27 l0_2 x11_1).f2) t135 t136 _ ?side1 ?side2 A7.out).mono ?_); (case side1 => exact Kd.C_below HR133_2.out (by repeat (first | (with_reducible first | exact HB.out | apply below_alloc | apply pw_below_drewN | apply below_drew1 | refine below_set ?_ GE132.out | refine below_set ?_ GE134.out) | exact HB.out))); (case side2 => exact HC133_2.out); rintro e w12 ⟨rfl, hb⟩; refine ⟨_, rfl, ?_⟩; have n0_ := Aside0.mk (blk_below (g := gb132) (o := .cells #[.int .i64 a0_0, .int .i64 a0_1, .slice (some ad133) l0_2.length c0_2] 27 (0, 0)) (by (with_reducible repeat (first | refine blk_drewN ?_ _ | refine blk_drew ?_ | refine blk_alloc ?_ _)); refine blk_far ?_ NB132_134.out _; (with_reducible repeat (first | refine blk_drewN ?_ _ | refine blk_drew ?_ | refine blk_alloc ?_ _)); refine blk_far ?_ NB132_134.out _; (with_reducible repeat (first | refine blk_drewN ?_ _ | refine blk_drew ?_ | refine blk_alloc ?_ _)); refine blk_far ?_ NB132_134.out _; (with_reducible repeat (first | refine blk_drewN ?_ _ | refine blk_drew ?_ | refine blk_alloc ?_ _)); exact BK132.out) hb); have n1_ := Aside0.mk (blk_below (g := gb134) (o := .cells #[.int .i64 ((rd_T27 l0_2 x11_1).f0), .int .i64 ((rd_T27 l0_2 x11_1).f1), .slice A133_2 ((rd_T27 l0_2 x11_1).f2).length c133_2] 27 (0, 0)) (by (with_reducible repeat (first | refine blk_drewN ?_ _ | refine blk_drew ?_ | refine blk_alloc ?_ _)); refine blk_put (cs := #[.int .i64 ((rd_T27 l0_2 x11_1).f0), .int .i64 ((rd_T27 l0_2 x11_1).f1), .slice none 0 0]) ?_ 2 _ rfl; (with_reducible repeat (first | refine blk_drewN ?_ _ | refine blk_drew ?_ | refine blk_alloc ?_ _)); refine blk_put (cs := #[.int .i64 ((rd_T27 l0_2 x11_1).f0), .int .i64 0, .slice none 0 0]) ?_ 1 _ rfl; (with_reducible repeat (first | refine blk_drewN ?_ _ | refine blk_drew ?_ | refine blk_alloc ?_ _)); refine blk_put (cs := #[.int .i64 0, .int .i64 0, .slice none 0 0]) ?_ 0 _ rfl; (with_reducible repeat (first | refine blk_drewN ?_ _ | refine blk_drew ?_ | refine blk_alloc ?_ _)); exact BK134.out) hb); have n2_ := Aside0.mk (below_step (by repeat (first | (with_reducible first | exact HB.out | apply below_alloc | apply pw_below_drewN | apply below_drew1 | refine below_set ?_ GE132.out | refine below_set ?_ GE134.out) | exact HB.out)) hb); clear BK132; clear BK134; clear HB; have BK132 := n0_; have BK134 := n1_; have HB := n2_; clear n0_ n1_ n2_; (try clear hb); (try clear hb2); (try clear hk); (try clear hi)))
      go_roundg k1
      case measure => have := HK1.out; omega
      case rel => exact ⟨(wrap64 (x2_1 + t135)), (ji8), (wrap64 (x11_1 + 1)), (by first | rfl | (simp; done) | (simp [*]; done)), (by first | rfl | (simp; done) | (simp only [← hji8] <;> (first | rfl | simp)) | (simp [*]; done)), (by first | rfl | (simp; done) | (simp [*]; done)), H', ⟨by have := HK1.out; omega⟩, ⟨by (with_reducible repeat (first | refine blk_drewN ?_ _ | refine blk_drew ?_ | refine blk_alloc ?_ _)); exact BK132.out⟩, ⟨by repeat (first | (with_reducible first | exact HB.out | apply below_alloc | apply pw_below_drewN | apply below_drew1 | refine below_set ?_ GE132.out | refine below_set ?_ GE134.out) | exact HB.out)⟩⟩
     ·rw [if_neg c6] at H
      exact absurd H (by simp)
    ·rw [if_neg c5] at H
     exact absurd H (by simp)
   ·rw [if_neg c4] at H
    have c4b0 : decide (x11_1 < (l0_2.length : Int)) = false := decide_eq_false c4
    clear c4
    simp only [Option.some.injEq, Prod.mk.injEq] at H
    obtain ⟨rfl, rfl⟩ := H
    go_wp2
    go_ret2
    exact ⟨by first | rfl | (simp [errW_none, errW_some] <;> rfl) | (simp [*, errW_none, errW_some] <;> rfl), by repeat (first | (with_reducible first | exact HB.out | apply below_alloc | apply pw_below_drewN | apply below_drew1 | refine below_set ?_ GE132.out) | exact HB.out)⟩
end Go.Proofs.Ythkclagcbjnckaa.Pa


namespace Go.Proofs.Ythkclagcbjnckaa.Pa
open Go.RowKit Go.Proofs.YthkclagcbjnckaaW.PrintWords Go.Proofs.YthkclagcbjnckaaW.PrintLast Go.Proofs.YthkclagcbjnckaaW.PrintMore
attribute [local go_sem] max2_int min2_int max_two min_two max_three min_three max_four min_four
set_option linter.unusedVariables false
set_option linter.unusedSimpArgs false
mutual
def ring_formed.j0 : Nat → Bool → Int → Int → List (S27) → Option (Bool)
 | 0, _, _, _, _ => none
 | k + 1, x32, x138000, x138001, x138002 => if x32 = true then (if (x138002.length : Int) = 2 then (if x138001 = 0 then (if 0 < (x138002.length : Int) then ((ring_formed.f k ((rd_T27 x138002 0).f0) ((rd_T27 x138002 0).f1) ((rd_T27 x138002 0).f2)).bind fun t139 => (if t139 = true then (if 1 < (x138002.length : Int) then ((ring_formed.f k ((rd_T27 x138002 1).f0) ((rd_T27 x138002 1).f1) ((rd_T27 x138002 1).f2)).bind fun t141 => (some t141)) else (none)) else (some false))) else (none)) else (some false)) else (some false)) else (some false)
def ring_formed.f : Nat → Int → Int → List (S27) → Option (Bool)
 | 0, _, _, _ => none
 | k + 1, a0_0, a0_1, l0_2 => if a0_0 = 1 then (if (l0_2.length : Int) = 0 then (some (decide (a0_1 ≥ 0))) else (some false)) else (if a0_0 = 2 then (if (l0_2.length : Int) = 0 then (if a0_1 ≥ 0 then (some (decide (a0_1 < 8))) else (some false)) else (some false)) else (if a0_0 = 3 then (ring_formed.j0 k (a0_0 == 3) a0_0 a0_1 l0_2) else (ring_formed.j0 k (a0_0 == 4) a0_0 a0_1 l0_2)))
end
set_option maxHeartbeats 8000000 in
set_option maxRecDepth 100000 in
theorem ring_formed.calls (k : Nat) : ∀ (a0_0 : Int) (a0_1 : Int) (A0_2 : Option Addr) (c0_2 : Nat) (l0_2 : List (S27)) (r : Bool) (w : World) (hr0_2 : Kd.C k27 w A0_2 l0_2.length l0_2) (hc0_2 : l0_2.length ≤ c0_2) (h : ring_formed.f k a0_0 a0_1 l0_2 = some r),
  Calls Try.prog 69 #[.agg #[.int .i64 a0_0, .int .i64 a0_1, .slice A0_2 l0_2.length c0_2]] w fun e w' => e = .returned (.bool r) ∧ Below w.heap.size w w' := by
 induction k using Nat.strongRecOn with
 | _ k ih =>
 intro a0_0 a0_1 A0_2 c0_2 l0_2 r w hr0_2 hc0_2 h
 cases k with
 | zero => exact absurd h (by simp [ring_formed.f])
 | succ k =>
 simp only [ring_formed.f] at h
 have hu27 := Try.underlying27
 have HR0_2 := Aside0.mk hr0_2
 have HC0_2 := Aside0.mk hc0_2
 clear hr0_2 hc0_2
 have HB := Aside0.mk (Below.refl w.heap.size w)
 have H : (if a0_0 = 1 then (if (l0_2.length : Int) = 0 then (some (decide (a0_1 ≥ 0))) else (some false)) else (if a0_0 = 2 then (if (l0_2.length : Int) = 0 then (if a0_1 ≥ 0 then (some (decide (a0_1 < 8))) else (some false)) else (some false)) else (if a0_0 = 3 then (ring_formed.j0 k (a0_0 == 3) a0_0 a0_1 l0_2) else (ring_formed.j0 k (a0_0 == 4) a0_0 a0_1 l0_2)))) = some r := h
 clear h
 by_cases c2 : a0_0 = 1
 ·rw [if_pos c2] at H
  have c2b0 : (a0_0 == 1) = true := beq_iff_eq.mpr c2
  have c2b1 : (a0_0 != 1) = false := bne_eq_false_iff_eq.mpr c2
  clear c2
  by_cases c3 : (l0_2.length : Int) = 0
  ·rw [if_pos c3] at H
   have c3b0 : ((l0_2.length : Int) == 0) = true := beq_iff_eq.mpr c3
   have c3b1 : ((l0_2.length : Int) != 0) = false := bne_eq_false_iff_eq.mpr c3
   clear c3
   obtain rfl := Option.some.inj H
   go_enter Try.func69, Try.ntmps69
   go_wp2_with (first | ((with_reducible refine gate_dst (N := 1) rfl ?_); refine box_event ?hg (N := 1) ?hd (cs := #[.int .i64 a0_0, .int .i64 a0_1, .slice A0_2 l0_2.length c0_2]) (t := 27) ?hr ?_; (case hd => rfl); (case hg => rfl); (case hr => first | (go_simp; done) | (go_simp; rfl)); intro gb137 hg w4 hbox hb; have n0_ := Aside0.mk (below_step (by repeat (first | (with_reducible first | exact HB.out | apply below_alloc | apply pw_below_drewN | apply below_drew1) | exact HB.out)) hb); have n1_ := Aside0.mk (hbox); have n2_ := Aside0.mk ((by rw [hg]; exact (below_size (by repeat (first | (with_reducible first | exact HB.out | apply below_alloc | apply pw_below_drewN | apply below_drew1) | exact HB.out))) : w.heap.size ≤ gb137)); have n3_ := Aside0.mk ((by rw [hg]; exact (below_size (by repeat (first | (with_reducible first | exact HB.out | apply below_alloc | apply pw_below_drewN | apply below_drew1) | exact HB.out))) : w.heap.size ≤ gb137)); clear HB; have HB := n0_; have BK137 := n1_; have GW137 := n2_; have GE137 := n3_; clear n0_ n1_ n2_ n3_; clear hb hbox hg; have hcz5_0 : w4.cell? ⟨gb137, 0, none⟩ = some (.int .i64 a0_0) := (blk_cell BK137.out 0).trans rfl; have hcz5_1 : w4.cell? ⟨gb137, 1, none⟩ = some (.int .i64 a0_1) := (blk_cell BK137.out 1).trans rfl; have hcz5_2 : w4.cell? ⟨gb137, 2, none⟩ = some (.slice A0_2 l0_2.length c0_2) := (blk_cell BK137.out 2).trans rfl; have hfz5_0 := blk_frozen BK137.out 0; have hfz5_1 := blk_frozen BK137.out 1; have hfz5_2 := blk_frozen BK137.out 2))
   go_ret
   exact ⟨by first | rfl | (simp [errW_none, errW_some] <;> rfl) | (simp [*, errW_none, errW_some] <;> rfl), by repeat (first | (with_reducible first | exact HB.out | apply below_alloc | apply pw_below_drewN | apply below_drew1 | refine below_set ?_ GE137.out) | exact HB.out)⟩
  ·rw [if_neg c3] at H
   have c3b0 : ((l0_2.length : Int) == 0) = false := beq_eq_false_iff_ne.mpr c3
   have c3b1 : ((l0_2.length : Int) != 0) = true := bne_iff_ne.mpr c3
   have c3b2 : ¬ (l0_2 = []) := fun h_ => c3 (by rw [h_]; rfl)
   obtain rfl := Option.some.inj H
   go_enter Try.func69, Try.ntmps69
   go_wp2_with (first | ((with_reducible refine gate_dst (N := 1) rfl ?_); refine box_event ?hg (N := 1) ?hd (cs := #[.int .i64 a0_0, .int .i64 a0_1, .slice A0_2 l0_2.length c0_2]) (t := 27) ?hr ?_; (case hd => rfl); (case hg => rfl); (case hr => first | (go_simp; done) | (go_simp; rfl)); intro gb137 hg w6 hbox hb; have n0_ := Aside0.mk (below_step (by repeat (first | (with_reducible first | exact HB.out | apply below_alloc | apply pw_below_drewN | apply below_drew1) | exact HB.out)) hb); have n1_ := Aside0.mk (hbox); have n2_ := Aside0.mk ((by rw [hg]; exact (below_size (by repeat (first | (with_reducible first | exact HB.out | apply below_alloc | apply pw_below_drewN | apply below_drew1) | exact HB.out))) : w.heap.size ≤ gb137)); have n3_ := Aside0.mk ((by rw [hg]; exact (below_size (by repeat (first | (with_reducible first | exact HB.out | apply below_alloc | apply pw_below_drewN | apply below_drew1) | exact HB.out))) : w.heap.size ≤ gb137)); clear HB; have HB := n0_; have BK137 := n1_; have GW137 := n2_; have GE137 := n3_; clear n0_ n1_ n2_ n3_; clear hb hbox hg; have hcz7_0 : w6.cell? ⟨gb137, 0, none⟩ = some (.int .i64 a0_0) := (blk_cell BK137.out 0).trans rfl; have hcz7_1 : w6.cell? ⟨gb137, 1, none⟩ = some (.int .i64 a0_1) := (blk_cell BK137.out 1).trans rfl; have hcz7_2 : w6.cell? ⟨gb137, 2, none⟩ = some (.slice A0_2 l0_2.length c0_2) := (blk_cell BK137.out 2).trans rfl; have hfz7_0 := blk_frozen BK137.out 0; have hfz7_1 := blk_frozen BK137.out 1; have hfz7_2 := blk_frozen BK137.out 2))
   go_ret
   exact ⟨by first | rfl | (simp [errW_none, errW_some] <;> rfl) | (simp [*, errW_none, errW_some] <;> rfl), by repeat (first | (with_reducible first | exact HB.out | apply below_alloc | apply pw_below_drewN | apply below_drew1 | refine below_set ?_ GE137.out) | exact HB.out)⟩
 ·rw [if_neg c2] at H
  have c2b0 : (a0_0 == 1) = false := beq_eq_false_iff_ne.mpr c2
  have c2b1 : (a0_0 != 1) = true := bne_iff_ne.mpr c2
  by_cases c8 : a0_0 = 2
  ·rw [if_pos c8] at H
   have c8b0 : (a0_0 == 2) = true := beq_iff_eq.mpr c8
   have c8b1 : (a0_0 != 2) = false := bne_eq_false_iff_eq.mpr c8
   clear c8
   by_cases c9 : (l0_2.length : Int) = 0
   ·rw [if_pos c9] at H
    have c9b0 : ((l0_2.length : Int) == 0) = true := beq_iff_eq.mpr c9
    have c9b1 : ((l0_2.length : Int) != 0) = false := bne_eq_false_iff_eq.mpr c9
    clear c9
    by_cases c10 : a0_1 ≥ 0
    ·rw [if_pos c10] at H
     have c10b0 : decide (0 ≤ a0_1) = true := decide_eq_true c10
     clear c10
     obtain rfl := Option.some.inj H
     go_enter Try.func69, Try.ntmps69
     go_wp2_with (first | ((with_reducible refine gate_dst (N := 1) rfl ?_); refine box_event ?hg (N := 1) ?hd (cs := #[.int .i64 a0_0, .int .i64 a0_1, .slice A0_2 l0_2.length c0_2]) (t := 27) ?hr ?_; (case hd => rfl); (case hg => rfl); (case hr => first | (go_simp; done) | (go_simp; rfl)); intro gb137 hg w11 hbox hb; have n0_ := Aside0.mk (below_step (by repeat (first | (with_reducible first | exact HB.out | apply below_alloc | apply pw_below_drewN | apply below_drew1) | exact HB.out)) hb); have n1_ := Aside0.mk (hbox); have n2_ := Aside0.mk ((by rw [hg]; exact (below_size (by repeat (first | (with_reducible first | exact HB.out | apply below_alloc | apply pw_below_drewN | apply below_drew1) | exact HB.out))) : w.heap.size ≤ gb137)); have n3_ := Aside0.mk ((by rw [hg]; exact (below_size (by repeat (first | (with_reducible first | exact HB.out | apply below_alloc | apply pw_below_drewN | apply below_drew1) | exact HB.out))) : w.heap.size ≤ gb137)); clear HB; have HB := n0_; have BK137 := n1_; have GW137 := n2_; have GE137 := n3_; clear n0_ n1_ n2_ n3_; clear hb hbox hg; have hcz12_0 : w11.cell? ⟨gb137, 0, none⟩ = some (.int .i64 a0_0) := (blk_cell BK137.out 0).trans rfl; have hcz12_1 : w11.cell? ⟨gb137, 1, none⟩ = some (.int .i64 a0_1) := (blk_cell BK137.out 1).trans rfl; have hcz12_2 : w11.cell? ⟨gb137, 2, none⟩ = some (.slice A0_2 l0_2.length c0_2) := (blk_cell BK137.out 2).trans rfl; have hfz12_0 := blk_frozen BK137.out 0; have hfz12_1 := blk_frozen BK137.out 1; have hfz12_2 := blk_frozen BK137.out 2))
     go_ret
     exact ⟨by first | rfl | (simp [errW_none, errW_some] <;> rfl) | (simp [*, errW_none, errW_some] <;> rfl), by repeat (first | (with_reducible first | exact HB.out | apply below_alloc | apply pw_below_drewN | apply below_drew1 | refine below_set ?_ GE137.out) | exact HB.out)⟩
    ·rw [if_neg c10] at H
     have c10b0 : decide (0 ≤ a0_1) = false := decide_eq_false c10
     clear c10
     obtain rfl := Option.some.inj H
     go_enter Try.func69, Try.ntmps69
     go_wp2_with (first | ((with_reducible refine gate_dst (N := 1) rfl ?_); refine box_event ?hg (N := 1) ?hd (cs := #[.int .i64 a0_0, .int .i64 a0_1, .slice A0_2 l0_2.length c0_2]) (t := 27) ?hr ?_; (case hd => rfl); (case hg => rfl); (case hr => first | (go_simp; done) | (go_simp; rfl)); intro gb137 hg w13 hbox hb; have n0_ := Aside0.mk (below_step (by repeat (first | (with_reducible first | exact HB.out | apply below_alloc | apply pw_below_drewN | apply below_drew1) | exact HB.out)) hb); have n1_ := Aside0.mk (hbox); have n2_ := Aside0.mk ((by rw [hg]; exact (below_size (by repeat (first | (with_reducible first | exact HB.out | apply below_alloc | apply pw_below_drewN | apply below_drew1) | exact HB.out))) : w.heap.size ≤ gb137)); have n3_ := Aside0.mk ((by rw [hg]; exact (below_size (by repeat (first | (with_reducible first | exact HB.out | apply below_alloc | apply pw_below_drewN | apply below_drew1) | exact HB.out))) : w.heap.size ≤ gb137)); clear HB; have HB := n0_; have BK137 := n1_; have GW137 := n2_; have GE137 := n3_; clear n0_ n1_ n2_ n3_; clear hb hbox hg; have hcz14_0 : w13.cell? ⟨gb137, 0, none⟩ = some (.int .i64 a0_0) := (blk_cell BK137.out 0).trans rfl; have hcz14_1 : w13.cell? ⟨gb137, 1, none⟩ = some (.int .i64 a0_1) := (blk_cell BK137.out 1).trans rfl; have hcz14_2 : w13.cell? ⟨gb137, 2, none⟩ = some (.slice A0_2 l0_2.length c0_2) := (blk_cell BK137.out 2).trans rfl; have hfz14_0 := blk_frozen BK137.out 0; have hfz14_1 := blk_frozen BK137.out 1; have hfz14_2 := blk_frozen BK137.out 2))
     go_ret
     exact ⟨by first | rfl | (simp [errW_none, errW_some] <;> rfl) | (simp [*, errW_none, errW_some] <;> rfl), by repeat (first | (with_reducible first | exact HB.out | apply below_alloc | apply pw_below_drewN | apply below_drew1 | refine below_set ?_ GE137.out) | exact HB.out)⟩
   ·rw [if_neg c9] at H
    have c9b0 : ((l0_2.length : Int) == 0) = false := beq_eq_false_iff_ne.mpr c9
    have c9b1 : ((l0_2.length : Int) != 0) = true := bne_iff_ne.mpr c9
    have c9b2 : ¬ (l0_2 = []) := fun h_ => c9 (by rw [h_]; rfl)
    obtain rfl := Option.some.inj H
    go_enter Try.func69, Try.ntmps69
    go_wp2_with (first | ((with_reducible refine gate_dst (N := 1) rfl ?_); refine box_event ?hg (N := 1) ?hd (cs := #[.int .i64 a0_0, .int .i64 a0_1, .slice A0_2 l0_2.length c0_2]) (t := 27) ?hr ?_; (case hd => rfl); (case hg => rfl); (case hr => first | (go_simp; done) | (go_simp; rfl)); intro gb137 hg w15 hbox hb; have n0_ := Aside0.mk (below_step (by repeat (first | (with_reducible first | exact HB.out | apply below_alloc | apply pw_below_drewN | apply below_drew1) | exact HB.out)) hb); have n1_ := Aside0.mk (hbox); have n2_ := Aside0.mk ((by rw [hg]; exact (below_size (by repeat (first | (with_reducible first | exact HB.out | apply below_alloc | apply pw_below_drewN | apply below_drew1) | exact HB.out))) : w.heap.size ≤ gb137)); have n3_ := Aside0.mk ((by rw [hg]; exact (below_size (by repeat (first | (with_reducible first | exact HB.out | apply below_alloc | apply pw_below_drewN | apply below_drew1) | exact HB.out))) : w.heap.size ≤ gb137)); clear HB; have HB := n0_; have BK137 := n1_; have GW137 := n2_; have GE137 := n3_; clear n0_ n1_ n2_ n3_; clear hb hbox hg; have hcz16_0 : w15.cell? ⟨gb137, 0, none⟩ = some (.int .i64 a0_0) := (blk_cell BK137.out 0).trans rfl; have hcz16_1 : w15.cell? ⟨gb137, 1, none⟩ = some (.int .i64 a0_1) := (blk_cell BK137.out 1).trans rfl; have hcz16_2 : w15.cell? ⟨gb137, 2, none⟩ = some (.slice A0_2 l0_2.length c0_2) := (blk_cell BK137.out 2).trans rfl; have hfz16_0 := blk_frozen BK137.out 0; have hfz16_1 := blk_frozen BK137.out 1; have hfz16_2 := blk_frozen BK137.out 2))
    go_ret
    exact ⟨by first | rfl | (simp [errW_none, errW_some] <;> rfl) | (simp [*, errW_none, errW_some] <;> rfl), by repeat (first | (with_reducible first | exact HB.out | apply below_alloc | apply pw_below_drewN | apply below_drew1 | refine below_set ?_ GE137.out) | exact HB.out)⟩
  ·rw [if_neg c8] at H
   have c8b0 : (a0_0 == 2) = false := beq_eq_false_iff_ne.mpr c8
   have c8b1 : (a0_0 != 2) = true := bne_iff_ne.mpr c8
   have HC17 := Aside0.mk H
   clear H
   go_enter Try.func69, Try.ntmps69
   go_upto_if 32 with (first | ((with_reducible refine gate_dst (N := 1) rfl ?_); refine box_event ?hg (N := 1) ?hd (cs := #[.int .i64 a0_0, .int .i64 a0_1, .slice A0_2 l0_2.length c0_2]) (t := 27) ?hr ?_; (case hd => rfl); (case hg => rfl); (case hr => first | (go_simp; done) | (go_simp; rfl)); intro gb137 hg w18 hbox hb; have n0_ := Aside0.mk (below_step (by repeat (first | (with_reducible first | exact HB.out | apply below_alloc | apply pw_below_drewN | apply below_drew1) | exact HB.out)) hb); have n1_ := Aside0.mk (hbox); have n2_ := Aside0.mk ((by rw [hg]; exact (below_size (by repeat (first | (with_reducible first | exact HB.out | apply below_alloc | apply pw_below_drewN | apply below_drew1) | exact HB.out))) : w.heap.size ≤ gb137)); have n3_ := Aside0.mk ((by rw [hg]; exact (below_size (by repeat (first | (with_reducible first | exact HB.out | apply below_alloc | apply pw_below_drewN | apply below_drew1) | exact HB.out))) : w.heap.size ≤ gb137)); clear HB; have HB := n0_; have BK137 := n1_; have GW137 := n2_; have GE137 := n3_; clear n0_ n1_ n2_ n3_; clear hb hbox hg; have hcz19_0 : w18.cell? ⟨gb137, 0, none⟩ = some (.int .i64 a0_0) := (blk_cell BK137.out 0).trans rfl; have hcz19_1 : w18.cell? ⟨gb137, 1, none⟩ = some (.int .i64 a0_1) := (blk_cell BK137.out 1).trans rfl; have hcz19_2 : w18.cell? ⟨gb137, 2, none⟩ = some (.slice A0_2 l0_2.length c0_2) := (blk_cell BK137.out 2).trans rfl; have hfz19_0 := blk_frozen BK137.out 0; have hfz19_1 := blk_frozen BK137.out 1; have hfz19_2 := blk_frozen BK137.out 2))
   (try simp only [Act.put, List.setIfInBounds_toArray, List.set_cons_zero, List.set_cons_succ])
   go_cut [32] (fun v32 wc => ∃ (kq : Nat) (x32_16 : Bool), v32 = .bool x32_16 ∧ Aside0 (ring_formed.j0 kq x32_16 a0_0 a0_1 l0_2 = some r) ∧ Aside0 (kq ≤ k) ∧ Aside0 (wc.heap[gb137]? = some (.cells #[.int .i64 a0_0, .int .i64 a0_1, (.slice A0_2 l0_2.length c0_2)] 27 (0, 0))) ∧ Aside0 (Below w.heap.size w wc))
   case first =>
    have H := HC17.out
    clear HC17
    by_cases c20 : a0_0 = 3
    ·rw [if_pos c20] at H
     have c20b0 : (a0_0 == 3) = true := beq_iff_eq.mpr c20
     have c20b1 : (a0_0 != 3) = false := bne_eq_false_iff_eq.mpr c20
     clear c20
     (first | rw [c20b0] | (simp only [i64_w, i32_w]; rw [c20b0]) | skip)
     have H' := Aside0.mk H
     clear H
     go_wp2
     go_meet
     case rel => exact ⟨_, ((a0_0 == 3)), (by first | rfl | (simp; done) | (simp [*]; done)), H', ⟨by first | omega | exact Nat.le_refl _⟩, ⟨by (with_reducible repeat (first | refine blk_drewN ?_ _ | refine blk_drew ?_ | refine blk_alloc ?_ _)); exact BK137.out⟩, ⟨by repeat (first | (with_reducible first | exact HB.out | apply below_alloc | apply pw_below_drewN | apply below_drew1 | refine below_set ?_ GE137.out) | exact HB.out)⟩⟩
    ·rw [if_neg c20] at H
     have c20b0 : (a0_0 == 3) = false := beq_eq_false_iff_ne.mpr c20
     have c20b1 : (a0_0 != 3) = true := bne_iff_ne.mpr c20
     (first | rw [c20b0] | (simp only [i64_w, i32_w]; rw [c20b0]) | skip)
     have H' := Aside0.mk H
     clear H
     go_wp2
     go_meet
     case rel => exact ⟨_, ((a0_0 == 4)), (by first | rfl | (simp; done) | (simp [*]; done)), H', ⟨by first | omega | exact Nat.le_refl _⟩, ⟨by (with_reducible repeat (first | refine blk_drewN ?_ _ | refine blk_drew ?_ | refine blk_alloc ?_ _)); exact BK137.out⟩, ⟨by repeat (first | (with_reducible first | exact HB.out | apply below_alloc | apply pw_below_drewN | apply below_drew1 | refine below_set ?_ GE137.out) | exact HB.out)⟩⟩
   case rest =>
    clear HC17
    try clear c1
    try clear c2
    try clear c2b0
    try clear c2b1
    try clear p2
    try clear c3
    try clear c3b0
    try clear c3b1
    try clear c3b2
    try clear c6
    try clear c8
    try clear c8b0
    try clear c8b1
    try clear c9
    try clear c9b0
    try clear c9b1
    try clear c9b2
    try clear c10
    try clear c10b0
    try clear c20
    try clear c20b0
    try clear c20b1
    try clear hcz12_0
    try clear hcz12_1
    try clear hcz12_2
    try clear hcz14_0
    try clear hcz14_1
    try clear hcz14_2
    try clear hcz16_0
    try clear hcz16_1
    try clear hcz16_2
    try clear hcz19_0
    try clear hcz19_1
    try clear hcz19_2
    try clear hcz5_0
    try clear hcz5_1
    try clear hcz5_2
    try clear hcz7_0
    try clear hcz7_1
    try clear hcz7_2
    try clear hfz12_0
    try clear hfz12_1
    try clear hfz12_2
    try clear hfz14_0
    try clear hfz14_1
    try clear hfz14_2
    try clear hfz16_0
    try clear hfz16_1
    try clear hfz16_2
    try clear hfz19_0
    try clear hfz19_1
    try clear hfz19_2
    try clear hfz5_0
    try clear hfz5_1
    try clear hfz5_2
    try clear hfz7_0
    try clear hfz7_1
    try clear hfz7_2
    obtain ⟨kq, x32_16, rfl, HA, HJ16, BK137, HB⟩ := hcut
    cases kq with
    | zero => exact absurd HA.out (by simp [ring_formed.j0])
    | succ kj16 =>
     have H := HA.out
     clear HA
     simp only [ring_formed.j0] at H
     by_cases c21 : x32_16 = true
     ·subst c21
      have H1 : (if (l0_2.length : Int) = 2 then (if a0_1 = 0 then (if 0 < (l0_2.length : Int) then ((ring_formed.f kj16 ((rd_T27 l0_2 0).f0) ((rd_T27 l0_2 0).f1) ((rd_T27 l0_2 0).f2)).bind fun t139 => (if t139 = true then (if 1 < (l0_2.length : Int) then ((ring_formed.f kj16 ((rd_T27 l0_2 1).f0) ((rd_T27 l0_2 1).f1) ((rd_T27 l0_2 1).f2)).bind fun t141 => (some t141)) else (none)) else (some false))) else (none)) else (some false)) else (some false)) = some r := by rw [if_pos rfl] at H; exact H
      clear H
      have H := H1
      clear H1
      by_cases c22 : (l0_2.length : Int) = 2
      ·rw [if_pos c22] at H
       have c22b0 : ((l0_2.length : Int) == 2) = true := beq_iff_eq.mpr c22
       have c22b1 : ((l0_2.length : Int) != 2) = false := bne_eq_false_iff_eq.mpr c22
       clear c22
       by_cases c23 : a0_1 = 0
       ·rw [if_pos c23] at H
        have c23b0 : (a0_1 == 0) = true := beq_iff_eq.mpr c23
        have c23b1 : (a0_1 != 0) = false := bne_eq_false_iff_eq.mpr c23
        clear c23
        by_cases c24 : 0 < (l0_2.length : Int)
        ·rw [if_pos c24] at H
         have c24b0 : decide (0 < (l0_2.length : Int)) = true := decide_eq_true c24
         have c24b1 : decide (0 < l0_2.length) = true := decide_eq_true (by omega)
         clear c24
         replace H := Option.bind_eq_some_iff.mp H
         obtain ⟨t139, A250, H⟩ := H
         replace H : (if t139 = true then (if 1 < (l0_2.length : Int) then ((ring_formed.f kj16 ((rd_T27 l0_2 1).f0) ((rd_T27 l0_2 1).f1) ((rd_T27 l0_2 1).f2)).bind fun t141 => (some t141)) else (none)) else (some false)) = some r := H
         have A25 := Aside0.mk A250
         clear A250
         by_cases c26 : t139 = true
         ·subst c26
          have H1 : (if 1 < (l0_2.length : Int) then ((ring_formed.f kj16 ((rd_T27 l0_2 1).f0) ((rd_T27 l0_2 1).f1) ((rd_T27 l0_2 1).f2)).bind fun t141 => (some t141)) else (none)) = some r := by rw [if_pos rfl] at H; exact H
          clear H
          have H := H1
          clear H1
          by_cases c27 : 1 < (l0_2.length : Int)
          ·rw [if_pos c27] at H
           have c27b0 : decide (1 < (l0_2.length : Int)) = true := decide_eq_true c27
           have c27b1 : decide (1 < l0_2.length) = true := decide_eq_true (by omega)
           clear c27
           replace H := Option.bind_eq_some_iff.mp H
           obtain ⟨t141, A280, H⟩ := H
           replace H : (some t141) = some r := H
           have A28 := Aside0.mk A280
           clear A280
           obtain rfl := Option.some.inj H
           have hcz29_0 : wc.cell? ⟨gb137, 0, none⟩ = some (.int .i64 a0_0) := (blk_cell BK137.out 0).trans rfl
           have hcz29_1 : wc.cell? ⟨gb137, 1, none⟩ = some (.int .i64 a0_1) := (blk_cell BK137.out 1).trans rfl
           have hcz29_2 : wc.cell? ⟨gb137, 2, none⟩ = some (.slice A0_2 l0_2.length c0_2) := (blk_cell BK137.out 2).trans rfl
           have hfz29_0 := blk_frozen BK137.out 0
           have hfz29_1 := blk_frozen BK137.out 1
           have hfz29_2 := blk_frozen BK137.out 2
           have p138 : 0 ≤ (0 : Int) := (by omega)
           have q138 : 0 < (l0_2.length : Int) := of_decide_eq_true (by first | (with_reducible assumption) | assumption)
           obtain ⟨ad138, A138_2, c138_2, e138, hx138_0, hx138_1, hx138_2, hl138_2, hi138_2⟩ := at_T27 HR0_2.out 0 p138 q138
           cases e138
           have qi138 : (0 < l0_2.length) = True := eq_true (by omega)
           (try rw [show ((0 : Int)).toNat = 0 from rfl] at hx138_0)
           (try rw [show 0 * 3 = 0 from rfl] at hx138_0)
           (try rw [Addr.add_zero'] at hx138_0)
           (try rw [show ((0 : Int)).toNat = 0 from rfl] at hx138_1)
           (try rw [show 0 * 3 = 0 from rfl] at hx138_1)
           (try rw [Addr.add_zero'] at hx138_1)
           (try rw [show ((0 : Int)).toNat = 0 from rfl] at hx138_2)
           (try rw [show 0 * 3 = 0 from rfl] at hx138_2)
           (try rw [Addr.add_zero'] at hx138_2)
           replace hx138_0 := (HB.out.cell (World.block_lt_of_cell? w _ hx138_0)).trans hx138_0
           replace hx138_1 := (HB.out.cell (World.block_lt_of_cell? w _ hx138_1)).trans hx138_1
           replace hx138_2 := (HB.out.cell (World.block_lt_of_cell? w _ hx138_2)).trans hx138_2
           have HR138_2 := Aside0.mk hi138_2
           have HC138_2 := Aside0.mk hl138_2
           clear hi138_2 hl138_2
           replace p138 := eq_true p138
           replace q138 := eq_true q138
           go_wp2_with (first | (go_at_call 69; (with_reducible refine (ih kj16 (by have := HJ16.out; omega) ((rd_T27 l0_2 0).f0) ((rd_T27 l0_2 0).f1) _ _ ((rd_T27 l0_2 0).f2) true _ ?side1 ?side2 A25.out).mono ?_); (case side1 => repeat (first | exact (Kd.C_below HR138_2.out HB.out) | (with_reducible refine Kd.C_alloc ?_ _) | (with_reducible refine Kd.C_drewN ?_ _) | (with_reducible refine Kd.C_drew ?_))); (case side2 => exact HC138_2.out); rintro e w30 ⟨rfl, hb⟩; have n0_ := Aside0.mk (blk_below (g := gb137) (o := .cells #[.int .i64 a0_0, .int .i64 a0_1, .slice (some ad138) l0_2.length c0_2] 27 (0, 0)) (by (with_reducible repeat (first | refine blk_drewN ?_ _ | refine blk_drew ?_ | refine blk_alloc ?_ _)); exact BK137.out) hb); have n1_ := Aside0.mk (below_step (by repeat (first | (with_reducible first | exact HB.out | apply below_alloc | apply pw_below_drewN | apply below_drew1 | refine below_set ?_ GE137.out) | exact HB.out)) hb); clear BK137; clear HB; have BK137 := n0_; have HB := n1_; clear n0_ n1_; (try clear hb); (try clear hb2); (try clear hk); (try clear hi); have hcz31_0 : w30.cell? ⟨gb137, 0, none⟩ = some (.int .i64 a0_0) := (blk_cell BK137.out 0).trans rfl; have hcz31_1 : w30.cell? ⟨gb137, 1, none⟩ = some (.int .i64 a0_1) := (blk_cell BK137.out 1).trans rfl; have hcz31_2 : w30.cell? ⟨gb137, 2, none⟩ = some (.slice (some ad138) l0_2.length c0_2) := (blk_cell BK137.out 2).trans rfl; have hfz31_0 := blk_frozen BK137.out 0; have hfz31_1 := blk_frozen BK137.out 1; have hfz31_2 := blk_frozen BK137.out 2; have p140 : 0 ≤ (1 : Int) := (by omega); have q140 : 1 < (l0_2.length : Int) := of_decide_eq_true (by first | (with_reducible assumption) | assumption); obtain ⟨ad140, A140_2, c140_2, e140, hx140_0, hx140_1, hx140_2, hl140_2, hi140_2⟩ := at_T27 HR0_2.out 1 p140 q140; obtain rfl : ad138 = ad140 := (by injection e140); (try simp only [show (1 : Int).toNat = 1 from rfl, Nat.reduceMul, Nat.reduceEqDiff, Go.Addr.add, ↓reduceIte] at hx140_0); (try simp only [show (1 : Int).toNat = 1 from rfl, Nat.reduceMul, Nat.reduceEqDiff, Go.Addr.add, ↓reduceIte] at hx140_1); (try simp only [show (1 : Int).toNat = 1 from rfl, Nat.reduceMul, Nat.reduceEqDiff, Go.Addr.add, ↓reduceIte] at hx140_2); have qi140 : (1 < l0_2.length) = True := eq_true (by omega); (try rw [show ((1 : Int)).toNat = 1 from rfl] at hx140_0); (try rw [show 1 * 3 = 3 from rfl] at hx140_0); (try rw [show ((1 : Int)).toNat = 1 from rfl] at hx140_1); (try rw [show 1 * 3 = 3 from rfl] at hx140_1); (try rw [show ((1 : Int)).toNat = 1 from rfl] at hx140_2); (try rw [show 1 * 3 = 3 from rfl] at hx140_2); replace hx140_0 := (HB.out.cell (World.block_lt_of_cell? w _ hx140_0)).trans hx140_0; replace hx140_1 := (HB.out.cell (World.block_lt_of_cell? w _ hx140_1)).trans hx140_1; replace hx140_2 := (HB.out.cell (World.block_lt_of_cell? w _ hx140_2)).trans hx140_2; have HR140_2 := Aside0.mk hi140_2; have HC140_2 := Aside0.mk hl140_2; clear hi140_2 hl140_2; replace p140 := eq_true p140; replace q140 := eq_true q140) | (go_at_call 69; (with_reducible refine (ih kj16 (by have := HJ16.out; omega) ((rd_T27 l0_2 1).f0) ((rd_T27 l0_2 1).f1) _ _ ((rd_T27 l0_2 1).f2) t141 _ ?side1 ?side2 A28.out).mono ?_); (case side1 => repeat (first | exact (Kd.C_below HR140_2.out HB.out) | (with_reducible refine Kd.C_alloc ?_ _) | (with_reducible refine Kd.C_drewN ?_ _) | (with_reducible refine Kd.C_drew ?_))); (case side2 => exact HC140_2.out); rintro e w32 ⟨rfl, hb⟩; have n0_ := Aside0.mk (blk_below (g := gb137) (o := .cells #[.int .i64 a0_0, .int .i64 a0_1, .slice (some ad138) l0_2.length c0_2] 27 (0, 0)) (by (with_reducible repeat (first | refine blk_drewN ?_ _ | refine blk_drew ?_ | refine blk_alloc ?_ _)); exact BK137.out) hb); have n1_ := Aside0.mk (below_step (by repeat (first | (with_reducible first | exact HB.out | apply below_alloc | apply pw_below_drewN | apply below_drew1 | refine below_set ?_ GE137.out) | exact HB.out)) hb); clear BK137; clear HB; have BK137 := n0_; have HB := n1_; clear n0_ n1_; (try clear hb); (try clear hb2); (try clear hk); (try clear hi)))
           go_ret
           exact ⟨by first | rfl | (simp [errW_none, errW_some] <;> rfl) | (simp [*, errW_none, errW_some] <;> rfl), by repeat (first | (with_reducible first | exact HB.out | apply below_alloc | apply pw_below_drewN | apply below_drew1 | refine below_set ?_ GE137.out) | exact HB.out)⟩
          ·rw [if_neg c27] at H
           exact absurd H (by simp)
         ·replace c26 := Bool.eq_false_iff.mpr c26
          subst c26
          have H1 : (some false) = some r := by rw [if_neg (show ¬ (false = true) by decide)] at H; exact H
          clear H
          have H := H1
          clear H1
          obtain rfl := Option.some.inj H
          have hcz33_0 : wc.cell? ⟨gb137, 0, none⟩ = some (.int .i64 a0_0) := (blk_cell BK137.out 0).trans rfl
          have hcz33_1 : wc.cell? ⟨gb137, 1, none⟩ = some (.int .i64 a0_1) := (blk_cell BK137.out 1).trans rfl
          have hcz33_2 : wc.cell? ⟨gb137, 2, none⟩ = some (.slice A0_2 l0_2.length c0_2) := (blk_cell BK137.out 2).trans rfl
          have hfz33_0 := blk_frozen BK137.out 0
          have hfz33_1 := blk_frozen BK137.out 1
          have hfz33_2 := blk_frozen BK137.out 2
          have p138 : 0 ≤ (0 : Int) := (by omega)
          have q138 : 0 < (l0_2.length : Int) := of_decide_eq_true (by first | (with_reducible assumption) | assumption)
          obtain ⟨ad138, A138_2, c138_2, e138, hx138_0, hx138_1, hx138_2, hl138_2, hi138_2⟩ := at_T27 HR0_2.out 0 p138 q138
          cases e138
          have qi138 : (0 < l0_2.length) = True := eq_true (by omega)
          (try rw [show ((0 : Int)).toNat = 0 from rfl] at hx138_0)
          (try rw [show 0 * 3 = 0 from rfl] at hx138_0)
          (try rw [Addr.add_zero'] at hx138_0)
          (try rw [show ((0 : Int)).toNat = 0 from rfl] at hx138_1)
          (try rw [show 0 * 3 = 0 from rfl] at hx138_1)
          (try rw [Addr.add_zero'] at hx138_1)
          (try rw [show ((0 : Int)).toNat = 0 from rfl] at hx138_2)
          (try rw [show 0 * 3 = 0 from rfl] at hx138_2)
          (try rw [Addr.add_zero'] at hx138_2)
          replace hx138_0 := (HB.out.cell (World.block_lt_of_cell? w _ hx138_0)).trans hx138_0
          replace hx138_1 := (HB.out.cell (World.block_lt_of_cell? w _ hx138_1)).trans hx138_1
          replace hx138_2 := (HB.out.cell (World.block_lt_of_cell? w _ hx138_2)).trans hx138_2
          have HR138_2 := Aside0.mk hi138_2
          have HC138_2 := Aside0.mk hl138_2
          clear hi138_2 hl138_2
          replace p138 := eq_true p138
          replace q138 := eq_true q138
          go_wp2_with (first | (go_at_call 69; (with_reducible refine (ih kj16 (by have := HJ16.out; omega) ((rd_T27 l0_2 0).f0) ((rd_T27 l0_2 0).f1) _ _ ((rd_T27 l0_2 0).f2) false _ ?side1 ?side2 A25.out).mono ?_); (case side1 => repeat (first | exact (Kd.C_below HR138_2.out HB.out) | (with_reducible refine Kd.C_alloc ?_ _) | (with_reducible refine Kd.C_drewN ?_ _) | (with_reducible refine Kd.C_drew ?_))); (case side2 => exact HC138_2.out); rintro e w34 ⟨rfl, hb⟩; have n0_ := Aside0.mk (blk_below (g := gb137) (o := .cells #[.int .i64 a0_0, .int .i64 a0_1, .slice (some ad138) l0_2.length c0_2] 27 (0, 0)) (by (with_reducible repeat (first | refine blk_drewN ?_ _ | refine blk_drew ?_ | refine blk_alloc ?_ _)); exact BK137.out) hb); have n1_ := Aside0.mk (below_step (by repeat (first | (with_reducible first | exact HB.out | apply below_alloc | apply pw_below_drewN | apply below_drew1 | refine below_set ?_ GE137.out) | exact HB.out)) hb); clear BK137; clear HB; have BK137 := n0_; have HB := n1_; clear n0_ n1_; (try clear hb); (try clear hb2); (try clear hk); (try clear hi)))
          go_ret
          exact ⟨by first | rfl | (simp [errW_none, errW_some] <;> rfl) | (simp [*, errW_none, errW_some] <;> rfl), by repeat (first | (with_reducible first | exact HB.out | apply below_alloc | apply pw_below_drewN | apply below_drew1 | refine below_set ?_ GE137.out) | exact HB.out)⟩
        ·rw [if_neg c24] at H
         exact absurd H (by simp)
       ·rw [if_neg c23] at H
        have c23b0 : (a0_1 == 0) = false := beq_eq_false_iff_ne.mpr c23
        have c23b1 : (a0_1 != 0) = true := bne_iff_ne.mpr c23
        obtain rfl := Option.some.inj H
        have hcz35_0 : wc.cell? ⟨gb137, 0, none⟩ = some (.int .i64 a0_0) := (blk_cell BK137.out 0).trans rfl
        have hcz35_1 : wc.cell? ⟨gb137, 1, none⟩ = some (.int .i64 a0_1) := (blk_cell BK137.out 1).trans rfl
        have hcz35_2 : wc.cell? ⟨gb137, 2, none⟩ = some (.slice A0_2 l0_2.length c0_2) := (blk_cell BK137.out 2).trans rfl
        have hfz35_0 := blk_frozen BK137.out 0
        have hfz35_1 := blk_frozen BK137.out 1
        have hfz35_2 := blk_frozen BK137.out 2
        go_wp2
        go_ret
        exact ⟨by first | rfl | (simp [errW_none, errW_some] <;> rfl) | (simp [*, errW_none, errW_some] <;> rfl), by repeat (first | (with_reducible first | exact HB.out | apply below_alloc | apply pw_below_drewN | apply below_drew1 | refine below_set ?_ GE137.out) | exact HB.out)⟩
      ·rw [if_neg c22] at H
       have c22b0 : ((l0_2.length : Int) == 2) = false := beq_eq_false_iff_ne.mpr c22
       have c22b1 : ((l0_2.length : Int) != 2) = true := bne_iff_ne.mpr c22
       obtain rfl := Option.some.inj H
       have hcz36_0 : wc.cell? ⟨gb137, 0, none⟩ = some (.int .i64 a0_0) := (blk_cell BK137.out 0).trans rfl
       have hcz36_1 : wc.cell? ⟨gb137, 1, none⟩ = some (.int .i64 a0_1) := (blk_cell BK137.out 1).trans rfl
       have hcz36_2 : wc.cell? ⟨gb137, 2, none⟩ = some (.slice A0_2 l0_2.length c0_2) := (blk_cell BK137.out 2).trans rfl
       have hfz36_0 := blk_frozen BK137.out 0
       have hfz36_1 := blk_frozen BK137.out 1
       have hfz36_2 := blk_frozen BK137.out 2
       go_wp2
       go_ret
       exact ⟨by first | rfl | (simp [errW_none, errW_some] <;> rfl) | (simp [*, errW_none, errW_some] <;> rfl), by repeat (first | (with_reducible first | exact HB.out | apply below_alloc | apply pw_below_drewN | apply below_drew1 | refine below_set ?_ GE137.out) | exact HB.out)⟩
     ·replace c21 := Bool.eq_false_iff.mpr c21
      subst c21
      have H1 : (some false) = some r := by rw [if_neg (show ¬ (false = true) by decide)] at H; exact H
      clear H
      have H := H1
      clear H1
      obtain rfl := Option.some.inj H
      go_wp2
      go_ret
      exact ⟨by first | rfl | (simp [errW_none, errW_some] <;> rfl) | (simp [*, errW_none, errW_some] <;> rfl), by repeat (first | (with_reducible first | exact HB.out | apply below_alloc | apply pw_below_drewN | apply below_drew1 | refine below_set ?_ GE137.out) | exact HB.out)⟩
end Go.Proofs.Ythkclagcbjnckaa.Pa


namespace Go.Proofs.Ythkclagcbjnckaa.Pa
open Go.RowKit Go.Proofs.YthkclagcbjnckaaW.PrintWords Go.Proofs.YthkclagcbjnckaaW.PrintLast Go.Proofs.YthkclagcbjnckaaW.PrintMore
attribute [local go_sem] max2_int min2_int max_two min_two max_three min_three max_four min_four
set_option linter.unusedVariables false
set_option linter.unusedSimpArgs false
end Go.Proofs.Ythkclagcbjnckaa.Pa


namespace Go.Proofs.Ythkclagcbjnckaa.Pa
open Go.RowKit Go.Proofs.YthkclagcbjnckaaW.PrintWords Go.Proofs.YthkclagcbjnckaaW.PrintLast Go.Proofs.YthkclagcbjnckaaW.PrintMore
attribute [local go_sem] max2_int min2_int max_two min_two max_three min_three max_four min_four
set_option linter.unusedVariables false
set_option linter.unusedSimpArgs false
end Go.Proofs.Ythkclagcbjnckaa.Pa

namespace Go.Proofs.Ythkclagcbjnckaa.Pa
open Go.RowKit Go.Proofs.YthkclagcbjnckaaW.PrintWords Go.Proofs.YthkclagcbjnckaaW.PrintLast Go.Proofs.YthkclagcbjnckaaW.PrintMore
mutual
def nodes : S27 → Nat
  | ⟨_, _, l⟩ => nodesL l + 1
def nodesL : List S27 → Nat
  | [] => 0
  | x :: r => nodes x + nodesL r
end
mutual
def depth : S27 → Nat
  | ⟨_, _, l⟩ => depthL l + 1
def depthL : List S27 → Nat
  | [] => 0
  | x :: r => max (depth x) (depthL r)
end
theorem nodes_eq (x : S27) : nodes x = nodesL x.f2 + 1 := by cases x; rfl
theorem depth_eq (x : S27) : depth x = depthL x.f2 + 1 := by cases x; rfl
theorem nodesL_append (l r : List S27) : nodesL (l ++ r) = nodesL l + nodesL r := by
  induction l with
  | nil => simp [nodesL]
  | cons a l ih => simp only [List.cons_append, nodesL, ih]; omega
theorem depthL_append (l r : List S27) : depthL (l ++ r) = max (depthL l) (depthL r) := by
  induction l with
  | nil => simp [depthL]
  | cons a l ih => simp only [List.cons_append, depthL, ih]; omega
theorem nodesL_mem {l : List S27} {x : S27} (h : x ∈ l) : nodes x ≤ nodesL l := by
  induction l with
  | nil => cases h
  | cons a l ih =>
    simp only [nodesL]
    rcases List.mem_cons.1 h with rfl | h
    · omega
    · have := ih h; omega
theorem depth_le (x : S27) : depth x ≤ nodes x := by
  induction x using S27.ind with
  | h x ih =>
    rw [nodes_eq, depth_eq]
    have : ∀ l : List S27, (∀ y ∈ l, depth y ≤ nodes y) → depthL l ≤ nodesL l := by
      intro l
      induction l with
      | nil => intro _; simp [depthL, nodesL]
      | cons a l ih2 =>
        intro h
        have h1 := h a (by simp)
        have h2 := ih2 (fun y hy => h y (by simp [hy]))
        simp only [depthL, nodesL]
        omega
    have := this x.f2 ih
    omega
theorem nodes_pos (x : S27) : 1 ≤ nodes x := by rw [nodes_eq]; omega
theorem rd_mid (pre r : List S27) (y : S27) : rd_T27 (pre ++ y :: r) (pre.length : Int) = y := by
  simp [rd_T27, List.getD_eq_getElem?_getD]
theorem length_nodesL (l : List S27) : l.length ≤ nodesL l := by
  induction l with
  | nil => simp
  | cons a l ih => have := nodes_pos a; simp only [List.length_cons, nodesL]; omega
theorem mx_nat (a b : Nat) : mx (a : Int) (b : Int) = ((max a b : Nat) : Int) := by unfold mx; split <;> omega
theorem wrap_nat (n : Nat) (h : n ≤ 4611686018427387904) : wrap64 (n : Int) = n := by unfold wrap64; omega
theorem wrap_succ (n : Nat) (h : n ≤ 4611686018427387903) : wrap64 ((n : Int) + 1) = ((n + 1 : Nat) : Int) := by have := wrap_nat (n + 1) (by omega); push_cast at this ⊢; exact this
theorem wrap_addN (n m : Nat) (h : n + m ≤ 4611686018427387904) : wrap64 ((n : Int) + (m : Int)) = ((n + m : Nat) : Int) := by have := wrap_nat (n + m) h; push_cast at this ⊢; exact this
theorem sizeOf_ev (x : S27) : nodes x ≤ 1152921504606846976 → Ev (fun k => ring_sizeOf.f k x.f0 x.f1 x.f2) ((nodes x : Int), (depth x : Int)) := by
  induction x using S27.ind with
  | h x ih =>
  intro hn
  have loop : ∀ (r pre : List S27), x.f2 = pre ++ r → Ev (fun k => ring_sizeOf.l0 k (nodesL pre : Int) (depthL pre : Int) x.f2 (x.f2.length : Int) (pre.length : Int)) ((nodes x : Int), (depth x : Int)) := by
    intro r
    induction r with
    | nil =>
      intro pre hp
      rw [List.append_nil] at hp
      refine Ev.step (f := fun _ => some (wrap64 ((nodesL pre : Int) + 1), wrap64 ((depthL pre : Int) + 1))) (fun k => ?_) ?_
      · simp only [ring_sizeOf.l0]
        rw [if_neg (by rw [hp]; omega)]
      · have hn2 := nodes_eq x
        rw [hp] at hn2
        have e1 : wrap64 ((nodesL pre : Int) + 1) = (nodes x : Int) := by
          rw [hn2]; exact wrap_succ _ (by omega)
        have e2 : wrap64 ((depthL pre : Int) + 1) = (depth x : Int) := by
          have hd := depth_le x
          have hd2 := depth_eq x
          rw [hp] at hd2
          rw [hd2]; exact wrap_succ _ (by omega)
        rw [e1, e2]
        exact Ev.now _
    | cons y r ih2 =>
      intro pre hp
      have hy : y ∈ x.f2 := by rw [hp]; simp
      have hny := nodesL_mem hy
      rw [nodes_eq] at hn
      have h1 := ih y hy (by omega)
      have h2 := ih2 (pre ++ [y]) (by rw [hp]; simp)
      have hlen := length_nodesL x.f2
      have hd := depth_le y
      have hsum : nodesL x.f2 = nodesL pre + (nodes y + nodesL r) := by rw [hp, nodesL_append]; rfl
      refine Ev.step (f := fun k => (ring_sizeOf.f k y.f0 y.f1 y.f2).bind fun bt => ring_sizeOf.l0 k (wrap64 ((nodesL pre : Int) + bt.1)) (mx (depthL pre : Int) bt.2) x.f2 (x.f2.length : Int) (wrap64 ((pre.length : Int) + 1))) (fun k => ?_) ?_
      · simp only [ring_sizeOf.l0]
        have hl : (pre.length : Int) < (x.f2.length : Int) := by rw [hp]; simp; omega
        rw [if_pos hl, if_pos (by omega), if_pos hl, hp, rd_mid]
      · refine Ev.bind h1 ?_
        have e1 : wrap64 ((nodesL pre : Int) + (nodes y : Int)) = ((nodesL (pre ++ [y]) : Nat) : Int) := by
          rw [nodesL_append]
          simp only [nodesL, Nat.add_zero]
          exact wrap_addN _ _ (by omega)
        have e2 : mx (depthL pre : Int) (depth y : Int) = ((depthL (pre ++ [y]) : Nat) : Int) := by rw [mx_nat, depthL_append]; simp [depthL]
        have e3 : wrap64 ((pre.length : Int) + 1) = (((pre ++ [y]).length : Nat) : Int) := by
          have hl : pre.length < x.f2.length := by rw [hp]; simp
          simp only [List.length_append, List.length_singleton]
          exact wrap_succ _ (by omega)
        simp only [e1, e2, e3]
        exact h2
  refine Ev.step (f := fun k => ring_sizeOf.l0 k 0 0 x.f2 (x.f2.length : Int) 0) (fun k => by simp only [ring_sizeOf.f]) ?_
  exact loop x.f2 [] rfl
def formedB : S27 → Bool
  | ⟨op, n, l⟩ => match l with
    | [] => (decide (op = 1) && decide (0 ≤ n)) || (decide (op = 2) && decide (0 ≤ n) && decide (n < 8))
    | [a, b] => (decide (op = 3) || decide (op = 4)) && decide (n = 0) && formedB a && formedB b
    | _ => false
end Go.Proofs.Ythkclagcbjnckaa.Pa

namespace Go.Proofs.Ythkclagcbjnckaa.Pa
open Go.RowKit Go.Proofs.YthkclagcbjnckaaW.PrintWords Go.Proofs.YthkclagcbjnckaaW.PrintLast Go.Proofs.YthkclagcbjnckaaW.PrintMore
theorem formedB_nil (op n : Int) : formedB ⟨op, n, []⟩ = ((decide (op = 1) && decide (0 ≤ n)) || (decide (op = 2) && decide (0 ≤ n) && decide (n < 8))) := by simp [formedB]
theorem formedB_two (op n : Int) (a b : S27) : formedB ⟨op, n, [a, b]⟩ = ((decide (op = 3) || decide (op = 4)) && decide (n = 0) && formedB a && formedB b) := by simp [formedB]
theorem formedB_one (op n : Int) (a : S27) : formedB ⟨op, n, [a]⟩ = false := by simp [formedB]
theorem formedB_more (op n : Int) (a b c : S27) (r : List S27) : formedB ⟨op, n, a :: b :: c :: r⟩ = false := by simp [formedB]
theorem shapes (l : List S27) : l = [] ∨ (∃ a, l = [a]) ∨ (∃ a b, l = [a, b]) ∨ ∃ a b c r, l = a :: b :: c :: r := by
  match l with
  | [] => exact .inl rfl
  | [a] => exact .inr (.inl ⟨a, rfl⟩)
  | [a, b] => exact .inr (.inr (.inl ⟨a, b, rfl⟩))
  | a :: b :: c :: r => exact .inr (.inr (.inr ⟨a, b, c, r, rfl⟩))
theorem formedB_len {op n : Int} {l : List S27} (h : l.length ≠ 0) (h2 : l.length ≠ 2) : formedB ⟨op, n, l⟩ = false := by
  rcases shapes l with rfl | ⟨a, rfl⟩ | ⟨a, b, rfl⟩ | ⟨a, b, c, r, rfl⟩
  · simp at h
  · exact formedB_one ..
  · simp at h2
  · exact formedB_more ..
theorem j0_ev (x : S27) (ih : ∀ y ∈ x.f2, Ev (fun k => ring_formed.f k y.f0 y.f1 y.f2) (formedB y)) (t : Bool) (ht : t = (decide (x.f0 = 3) || decide (x.f0 = 4))) (h1 : x.f0 ≠ 1) (h2 : x.f0 ≠ 2) :
    Ev (fun k => ring_formed.j0 k t x.f0 x.f1 x.f2) (formedB x) := by
  obtain ⟨op, n, l⟩ := x
  simp only at ih ht h1 h2 ⊢
  cases t with
  | false =>
    have hf : formedB ⟨op, n, l⟩ = false := by
      rcases shapes l with rfl | ⟨a, rfl⟩ | ⟨a, b, rfl⟩ | ⟨a, b, c, r, rfl⟩
      · rw [formedB_nil]; simp [h1, h2]
      · exact formedB_one ..
      · rw [formedB_two, ← ht]; rfl
      · exact formedB_more ..
    rw [hf]
    refine Ev.step (f := fun _ => some false) (fun k => ?_) (Ev.now _)
    simp [ring_formed.j0]
  | true =>
    by_cases hl : l.length = 2
    · obtain ⟨a, b, rfl⟩ : ∃ a b, l = [a, b] := by
        rcases shapes l with rfl | ⟨a, rfl⟩ | ⟨a, b, rfl⟩ | ⟨a, b, c, r, rfl⟩
        · simp at hl
        · simp at hl
        · exact ⟨a, b, rfl⟩
        · simp at hl
      rw [formedB_two, ← ht, Bool.true_and]
      by_cases hn : n = 0
      · have ha := ih a (by simp)
        have hb := ih b (by simp)
        refine Ev.step (f := fun k => (ring_formed.f k a.f0 a.f1 a.f2).bind fun t => if t = true then (ring_formed.f k b.f0 b.f1 b.f2).bind fun t => some t else some false) (fun k => ?_) ?_
        · rw [ring_formed.j0]
          rw [if_pos rfl, if_pos (by simp), if_pos hn, if_pos (by simp)]
          simp only [show rd_T27 [a, b] 0 = a from rfl, show rd_T27 [a, b] 1 = b from rfl]
          congr 1
        · refine Ev.bind ha ?_
          cases hfa : formedB a with
          | false => simp [hn]; exact Ev.now _
          | true =>
            simp only [if_true, hn, decide_true, Bool.true_and]
            exact Ev.bind hb (Ev.now _)
      · refine Ev.step (f := fun _ => some false) (fun k => ?_) (by simp [hn]; exact Ev.now _)
        rw [ring_formed.j0]
        rw [if_pos rfl, if_pos (by simp), if_neg hn]
    · have hf : formedB ⟨op, n, l⟩ = false := by
        by_cases h0 : l.length = 0
        · rw [List.eq_nil_of_length_eq_zero h0, formedB_nil]; simp [h1, h2]
        · exact formedB_len h0 hl
      rw [hf]
      refine Ev.step (f := fun _ => some false) (fun k => ?_) (Ev.now _)
      rw [ring_formed.j0]
      rw [if_pos rfl, if_neg (by omega)]
theorem formed_ev (x : S27) : Ev (fun k => ring_formed.f k x.f0 x.f1 x.f2) (formedB x) := by
  induction x using S27.ind with
  | h x ih =>
  by_cases h1 : x.f0 = 1
  · obtain ⟨op, n, l⟩ := x
    simp only at h1; subst h1
    by_cases h0 : l.length = 0
    · obtain rfl := List.eq_nil_of_length_eq_zero h0
      refine Ev.step (f := fun _ => some (decide (n ≥ 0))) (fun k => ?_) (by rw [formedB_nil]; simp; exact Ev.now _)
      simp [ring_formed.f]
    · refine Ev.step (f := fun _ => some false) (fun k => ?_) ?_
      · rw [ring_formed.f]; rw [if_pos rfl, if_neg (by simpa using h0)]
      · have : formedB ⟨1, n, l⟩ = false := by
          by_cases h2 : l.length = 2
          · rcases shapes l with rfl | ⟨a, rfl⟩ | ⟨a, b, rfl⟩ | ⟨a, b, c, r, rfl⟩
            · simp at h2
            · simp at h2
            · rw [formedB_two]; simp
            · simp at h2
          · exact formedB_len h0 h2
        rw [this]; exact Ev.now _
  · by_cases h2 : x.f0 = 2
    · obtain ⟨op, n, l⟩ := x
      simp only at h2; subst h2
      by_cases h0 : l.length = 0
      · obtain rfl := List.eq_nil_of_length_eq_zero h0
        refine Ev.step (f := fun _ => if n ≥ 0 then some (decide (n < 8)) else some false) (fun k => ?_) ?_
        · rw [ring_formed.f]; rw [if_neg (by simp), if_pos rfl, if_pos (by simp)]
        · rw [formedB_nil]
          by_cases hn : n ≥ 0
          · rw [if_pos hn]; simp [hn]; exact Ev.now _
          · rw [if_neg hn]; simp [hn]; exact Ev.now _
      · refine Ev.step (f := fun _ => some false) (fun k => ?_) ?_
        · rw [ring_formed.f]; rw [if_neg (by simp), if_pos rfl, if_neg (by simpa using h0)]
        · have : formedB ⟨2, n, l⟩ = false := by
            by_cases h2 : l.length = 2
            · rcases shapes l with rfl | ⟨a, rfl⟩ | ⟨a, b, rfl⟩ | ⟨a, b, c, r, rfl⟩
              · simp at h2
              · simp at h2
              · rw [formedB_two]; simp
              · simp at h2
            · exact formedB_len h0 h2
          rw [this]; exact Ev.now _
    · by_cases h3 : x.f0 = 3
      · refine Ev.step (f := fun k => ring_formed.j0 k (x.f0 == 3) x.f0 x.f1 x.f2) (fun k => ?_) (j0_ev x ih _ (by simp [h3]) h1 h2)
        rw [ring_formed.f]; rw [if_neg h1, if_neg h2, if_pos h3]
      · refine Ev.step (f := fun k => ring_formed.j0 k (x.f0 == 4) x.f0 x.f1 x.f2) (fun k => ?_) (j0_ev x ih _ (by rw [Bool.eq_iff_iff]; simp [h3]) h1 h2)
        rw [ring_formed.f]; rw [if_neg h1, if_neg h2, if_neg h3]
theorem rightB_nil (op n top : Int) : rightB ⟨op, n, []⟩ top = !(decide (op = 1) && decide (top < n)) := by simp [rightB, rightL]
theorem rightB_two (op n top : Int) (a b : S27) : rightB ⟨op, n, [a, b]⟩ top = (!(decide (op = 1) && decide (top < n)) && (rightB a top && rightB b top)) := by simp [rightB, rightL]
def validB (x : S27) : Bool := decide (nodes x ≤ 60) && decide (depth x ≤ 12) && formedB x && rightB x 1000000
theorem formed_c (x : S27) (A : Option Addr) (c : Nat) (w : World) (hr : k27.C w A x.f2.length x.f2) (hc : x.f2.length ≤ c) :
    Calls Try.prog 69 #[.agg #[.int .i64 x.f0, .int .i64 x.f1, .slice A x.f2.length c]] w fun e w' => e = .returned (.bool (formedB x)) ∧ Below w.heap.size w w' := by
  obtain ⟨k, hk⟩ := (formed_ev x).rounds
  exact ring_formed.calls k x.f0 x.f1 A c x.f2 _ w hr hc hk
theorem sizeOf_c (x : S27) (A : Option Addr) (c : Nat) (w : World) (hn : nodes x ≤ 1152921504606846976) (hr : k27.C w A x.f2.length x.f2) (hc : x.f2.length ≤ c) :
    Calls Try.prog 48 #[.agg #[.int .i64 x.f0, .int .i64 x.f1, .slice A x.f2.length c]] w fun e w' => e = .returned (.tuple #[.int .i64 (nodes x), .int .i64 (depth x)]) ∧ Below w.heap.size w w' := by
  obtain ⟨k, hk⟩ := (sizeOf_ev x hn).rounds
  exact ring_sizeOf.calls k x.f0 x.f1 A c x.f2 _ _ w hr hc hk
set_option maxRecDepth 100000 in
set_option maxHeartbeats 2000000 in
theorem valid_c (x : S27) (A : Option Addr) (c : Nat) (w : World) (hn : nodes x ≤ 1152921504606846976) (hr : k27.C w A x.f2.length x.f2) (hc : x.f2.length ≤ c) :
    Calls Try.prog 29 #[.agg #[.int .i64 x.f0, .int .i64 x.f1, .slice A x.f2.length c]] w fun e w' => e = .returned (.bool (validB x)) ∧ Below w.heap.size w w' := by
  have HR := Aside0.mk hr
  have HC := Aside0.mk hc
  have HN := Aside0.mk hn
  have HB := Aside0.mk (below_alloc (Below.refl w.heap.size w) (.cells #[.int .i64 x.f0, .int .i64 x.f1, .slice A x.f2.length c] 27))
  have HV := Aside0.mk (show validB x = (decide (nodes x ≤ 60) && decide (depth x ≤ 12) && formedB x && rightB x 1000000) from rfl)
  clear hr hc hn
  go_enter Try.func29, Try.ntmps29
  go_wp2_with fail
  refine (sizeOf_c x A c _ HN.out (Kd.C_below HR.out HB.out) HC.out).mono ?_
  rintro e w2 ⟨rfl, hb⟩
  have HB2 := Aside0.mk (below_then HB.out HB.out.size hb)
  have bx : w2.heap[w.heap.size]? = some (.cells #[.int .i64 x.f0, .int .i64 x.f1, .slice A x.f2.length c] 27 (0, 0)) := by rw [hb.block _ (by simp)]; exact heap_alloc_new _ _
  have b0 : w2.cell? ⟨w.heap.size, 0, none⟩ = some (.int .i64 x.f0) := (blk_cell bx 0).trans rfl
  have b1 : w2.cell? ⟨w.heap.size, 1, none⟩ = some (.int .i64 x.f1) := (blk_cell bx 1).trans rfl
  have b2 : w2.cell? ⟨w.heap.size, 2, none⟩ = some (.slice A x.f2.length c) := (blk_cell bx 2).trans rfl
  have BX := Aside0.mk bx
  obtain ⟨n, hn⟩ : ∃ n, n = nodes x := ⟨_, rfl⟩
  obtain ⟨d, hd⟩ : ∃ d, d = depth x := ⟨_, rfl⟩
  have HV2 := HV.out
  rw [← hn, ← hd] at HV2 ⊢
  have HV := Aside0.mk HV2
  clear hb bx HV2 hn hd HN
  by_cases h1 : n ≤ 60
  · have c1 : decide ((n : Int) ≤ 60) = true := decide_eq_true (by omega)
    by_cases h2 : d ≤ 12
    · have c2 : decide ((d : Int) ≤ 12) = true := decide_eq_true (by omega)
      go_wp2_with fail
      refine (formed_c x A c _ (Kd.C_below HR.out HB2.out) HC.out).mono ?_
      rintro e w3 ⟨rfl, hb⟩
      have HB3 := Aside0.mk (below_then HB2.out HB2.out.size hb)
      have bx : w3.heap[w.heap.size]? = some (.cells #[.int .i64 x.f0, .int .i64 x.f1, .slice A x.f2.length c] 27 (0, 0)) := (hb.block _ (blk_lt BX.out)).trans BX.out
      have b0 : w3.cell? ⟨w.heap.size, 0, none⟩ = some (.int .i64 x.f0) := (blk_cell bx 0).trans rfl
      have b1 : w3.cell? ⟨w.heap.size, 1, none⟩ = some (.int .i64 x.f1) := (blk_cell bx 1).trans rfl
      have b2 : w3.cell? ⟨w.heap.size, 2, none⟩ = some (.slice A x.f2.length c) := (blk_cell bx 2).trans rfl
      clear hb bx
      cases hf : formedB x with
      | false =>
        have HF := Aside0.mk hf
        clear hf
        go_wp2
        go_ret
        exact ⟨by rw [HV.out, HF.out]; simp, HB3.out⟩
      | true =>
        have HF := Aside0.mk hf
        clear hf
        go_wp2_with fail
        refine (right_c x 1000000 A c _ (Kd.C_below HR.out HB3.out) HC.out).mono ?_
        rintro e w4 ⟨rfl, hb⟩
        have HB4 := Aside0.mk (below_then HB3.out HB3.out.size hb)
        clear hb
        obtain ⟨r, hr⟩ : ∃ r, r = rightB x 1000000 := ⟨_, rfl⟩
        rw [← hr]
        have HE := Aside0.mk hr
        clear hr
        go_wp2
        go_ret
        exact ⟨by rw [HV.out, HF.out, ← HE.out]; simp [h1, h2], HB4.out⟩
    · have c2 : decide ((d : Int) ≤ 12) = false := decide_eq_false (by omega)
      have H2 := Aside0.mk h2
      clear h2
      go_wp2
      go_ret
      exact ⟨by rw [HV.out]; simp [H2.out], HB2.out⟩
  · have c1 : decide ((n : Int) ≤ 60) = false := decide_eq_false (by omega)
    have H1 := Aside0.mk h1
    clear h1
    go_wp2
    go_ret
    exact ⟨by rw [HV.out]; simp [H1.out], HB2.out⟩
end Go.Proofs.Ythkclagcbjnckaa.Pa

namespace Go.Proofs.Ythkclagcbjnckaa.Pa
open Go.RowKit Go.Proofs.RawMap Go.Proofs.YthkclagcbjnckaaW.PrintWords Go.Proofs.YthkclagcbjnckaaW.PrintLast Go.Proofs.YthkclagcbjnckaaW.PrintMore
theorem PIs.nodup {w : World} {b : Nat} {p : Po} (h : PIs w b p) : nodupK p := by
  have := MapIs.nodup h
  rw [List.pairwise_map] at this
  exact List.Pairwise.imp (fun {a b} hab e => hab (by simp only [enc]; rw [e])) this
theorem PIs.look {w : World} {b : Nat} {p : Po} (h : PIs w b p) {xs : List Int} (hv : VK (keyV xs)) :
    (Instr.lookup 63 (.map (some b)) (keyV xs) false).run Try.prog w = .ok (.int .i64 (coef xs p)) w := by
  by_cases hx : ∃ m ∈ p, m.1 = xs
  · obtain ⟨m, hm, rfl⟩ := hx
    rw [coef_of_mem h.nodup hm]
    have := MapIs.look_in h keyOk Try.underlying63 hv (List.mem_map.2 ⟨m, hm, rfl⟩) false
    simpa using this
  · have hn : ∀ m ∈ p, m.1 ≠ xs := fun m hm e => hx ⟨m, hm, e⟩
    rw [coef_none hn]
    have := MapIs.look_out h keyOk Try.underlying63 (Try.zeroValue3 w) hv (fun q hq => by
      obtain ⟨m, hm, rfl⟩ := List.mem_map.1 hq
      exact fun e => hn m hm (keyV_inj e)) false
    simpa using this
theorem perm_of_sub : ∀ {p q : Po}, p.Nodup → (∀ m ∈ p, m ∈ q) → p.length = q.length → p.Perm q
  | [], q, _, _, hl => by rw [List.eq_nil_of_length_eq_zero hl.symm]
  | a :: r, q, hp, hs, hl => by
    obtain ⟨q1, q2, rfl⟩ := List.append_of_mem (hs a (by simp))
    obtain ⟨h1, h2⟩ := List.nodup_cons.1 hp
    refine List.Perm.trans (List.Perm.cons a (perm_of_sub (q := q1 ++ q2) h2 (fun m hm => ?_) (by simp at hl ⊢; omega))) List.perm_middle.symm
    have := hs m (by simp [hm])
    simp only [List.mem_append, List.mem_cons] at this ⊢
    rcases this with h | rfl | h
    · exact .inl h
    · exact absurd hm h1
    · exact .inr h
theorem same_perm {p q : Po} (hp : nodupK p) (hq : nodupK q) (gp : okP p) : (p.all (fun m => decide (coef m.1 q = m.2)) && decide (p.length = q.length)) = true ↔ p.Perm q := by
  rw [Bool.and_eq_true, List.all_eq_true, decide_eq_true_eq]
  constructor
  · rintro ⟨h1, h2⟩
    have hsub : ∀ m ∈ p, m ∈ q := by
      intro m hm
      have h3 := h1 m hm
      simp only [decide_eq_true_eq] at h3
      have h4 := gp m hm
      by_cases hk : m.1 ∈ q.map Prod.fst
      · exact (mem_iff_coef hq m).2 ⟨hk, h3⟩
      · rw [coef_none (fun m' hm' e => hk (List.mem_map.2 ⟨m', hm', e⟩))] at h3
        omega
    exact perm_of_sub (nodup_of_nodupK hp) hsub h2
  · intro h
    refine ⟨fun m hm => ?_, h.length_eq⟩
    simp only [decide_eq_true_eq]
    exact coef_of_mem hq (h.mem_iff.1 hm)
set_option maxRecDepth 100000 in
set_option maxHeartbeats 4000000 in
theorem same_c (b1 b2 : Nat) (p q : Po) (w : World) (h1 : PIs w b1 p) (h2 : PIs w b2 q) (g1 : Good p) :
    Calls Try.prog 55 #[.map (some b1), .map (some b2)] w fun e w' => e = .returned (.bool (p.all (fun m => decide (coef m.1 q = m.2)) && decide (p.length = q.length))) ∧ Below w.heap.size w w' := by
  have ga : ∀ (W : World) (o : Obj), W.grownBy (W.alloc o) none := fun W o => World.grownBy_alloc W o none
  obtain ⟨w0, hrun, hra, hgr, hsz⟩ := MapIs.range (P := Try.prog) h1 Try.underlying63
  have h20 := h2.kept hgr (by simp)
  have hb0 : Below w.heap.size w w0 := (Below.refl _ _).grown hgr (Nat.le_refl _) (fun k hk => by cases hk)
  have hl2 := h2.lt
  have H2 := Aside0.mk h20
  have HA := Aside0.mk hra
  have G1 := Aside0.mk g1
  have HB := Aside0.mk hb0
  have L2 := Aside0.mk hl2
  have GA := Aside0.mk ga
  obtain ⟨ra, hrae⟩ : ∃ ra : Bool, ra = p.all (fun m => decide (coef m.1 q = m.2)) := ⟨_, rfl⟩
  rw [← hrae]
  have RA := Aside0.mk hrae
  clear h1 h2 g1 h20 hra hgr hsz hb0 hl2 ga hrae
  go_enter Try.func55, Try.ntmps55
  go_wp2
  go_loopg [] p.length (fun kq w' => ∃ (done left : Po), left.length = kq ∧ (done ++ left).Perm p ∧ (∀ m ∈ done, coef m.1 q = m.2) ∧ PIs w' b2 q ∧ Ranges w' VK b1 w.heap.size (p.map enc) (left.map enc) ∧ Below w.heap.size w w')
  case atStart => exact ⟨[], p, rfl, List.Perm.refl _, (fun m hm => by cases hm), H2.out, HA.out, HB.out⟩
  case round =>
    obtain ⟨done, left, rfl, hpm, hdone, H2, HR, HB⟩ := hrel
    have HPM := Aside0.mk hpm
    have HD := Aside0.mk hdone
    have H2 := Aside0.mk H2
    have HR := Aside0.mk HR
    have HB := Aside0.mk HB
    clear hpm hdone
    rcases HR.out.next (P := Try.prog) 0 with ⟨h0, hrun2⟩ | ⟨x1, key, v, x2, w1, hle, hmem, hVk, hrun2, hrng, hg1, hs1, hen⟩
    · have hl0 : left = [] := by cases left with | nil => rfl | cons a r => cases h0
      subst hl0
      have r1 := fun ty => (HR.out.map).len Try.underlying63 ty
      have r2 := fun ty => MapIs.len (P := Try.prog) H2.out Try.underlying63 ty
      rw [List.length_map] at r1 r2
      have r1 := r1 3
      have r2 := r2 3
      have hall : ra = true := by
        rw [RA.out, List.all_eq_true]
        intro m hm
        simp only [decide_eq_true_eq]
        have := HPM.out.mem_iff.2 hm
        rw [List.append_nil] at this
        exact HD.out m this
      have HALL := Aside0.mk hall
      obtain ⟨n1, hn1⟩ : ∃ n, n = p.length := ⟨_, rfl⟩
      obtain ⟨n2, hn2⟩ : ∃ n, n = q.length := ⟨_, rfl⟩
      rw [← hn1] at r1
      rw [← hn2] at r2
      have HN1 := Aside0.mk hn1
      have HN2 := Aside0.mk hn2
      clear h0 hall hn1 hn2
      go_wp2
      go_ret
      exact ⟨by rw [HALL.out, Bool.true_and, ← HN1.out, ← HN2.out]; show Ending.returned (.bool ((n1 : Int) == (n2 : Int))) = _; congr 2; rw [Bool.eq_iff_iff]; simp; omega, HB.out⟩
    · obtain ⟨y1, m, y2, rfl, rfl, he, rfl⟩ := split_map hle
      have hmem0 : m ∈ p := mem_enc (by rw [he]; exact hmem)
      obtain ⟨mx, mc⟩ := m
      obtain ⟨a0, a1, a2, a3, a4, a5, a6, a7, rfl⟩ : ∃ a0 a1 a2 a3 a4 a5 a6 a7, mx = [a0, a1, a2, a3, a4, a5, a6, a7] := eight (G1.out.ge _ hmem0).1
      injection he with hk1 hv1
      subst hk1
      subst hv1
      have hE := G1.out.ge _ hmem0
      simp only at hE
      have l2 := L2.out
      have h2a := (H2.out.kept hg1 (by simp; omega)).kept (GA.out w1 (.cells #[.int .i64 a0, .int .i64 a1, .int .i64 a2, .int .i64 a3, .int .i64 a4, .int .i64 a5, .int .i64 a6, .int .i64 a7] 76)) (by simp)
      have hlook := h2a.look (VK_of hE.1 hE.2)
      have e0 : keyV [a0, a1, a2, a3, a4, a5, a6, a7] = .agg #[.int .i64 a0, .int .i64 a1, .int .i64 a2, .int .i64 a3, .int .i64 a4, .int .i64 a5, .int .i64 a6, .int .i64 a7] := rfl
      rw [e0] at hrun2 hen hlook
      have hra2 := hrng.kept (GA.out w1 (.cells #[.int .i64 a0, .int .i64 a1, .int .i64 a2, .int .i64 a3, .int .i64 a4, .int .i64 a5, .int .i64 a6, .int .i64 a7] 76)) (by simp) (by simp)
      have hs2 := HB.out.size
      have hb2 : Below w.heap.size w (w1.alloc (.cells #[.int .i64 a0, .int .i64 a1, .int .i64 a2, .int .i64 a3, .int .i64 a4, .int .i64 a5, .int .i64 a6, .int .i64 a7] 76)) := (HB.out.grown hg1 hs2 (fun k hk => by injection hk with hk; omega)).alloc (by omega) _
      obtain ⟨cq, hcq⟩ : ∃ cq, cq = coef [a0, a1, a2, a3, a4, a5, a6, a7] q := ⟨_, rfl⟩
      rw [← hcq] at hlook
      have HCQ := Aside0.mk hcq
      have H2A := Aside0.mk h2a
      have HRA := Aside0.mk hra2
      have HB2 := Aside0.mk hb2
      have HM := Aside0.mk hmem0
      clear hle hmem hVk hrng hg1 e0 hmem0 hE h2a hra2 hs2 hb2 hs1 hcq l2
      by_cases hc : cq = mc
      · have bc : (cq != mc) = false := by simp [hc]
        have HC := Aside0.mk hc
        clear hc
        go_wp2
        go_roundg (y1 ++ y2).length
        case rel =>
          refine ⟨done ++ [([a0, a1, a2, a3, a4, a5, a6, a7], mc)], y1 ++ y2, rfl, ?_, ?_, H2A.out, (by rw [List.map_append]; exact HRA.out), HB2.out⟩
          · refine List.Perm.trans ?_ HPM.out
            rw [List.append_assoc]
            exact List.Perm.append_left _ (List.perm_middle (l₁ := y1) (l₂ := y2)).symm
          · intro m hm
            rcases List.mem_append.1 hm with hm | hm
            · exact HD.out m hm
            · simp only [List.mem_singleton] at hm; subst hm
              rw [← HCQ.out]; exact HC.out
        case measure => simp
      · have bc : (cq != mc) = true := by simp [hc]
        have hno : ra = false := by
          rw [RA.out]
          cases hq : p.all (fun m => decide (coef m.1 q = m.2)) with
          | false => rfl
          | true =>
            rw [List.all_eq_true] at hq
            have := hq _ HM.out
            simp only [decide_eq_true_eq] at this
            exact absurd (HCQ.out.trans this) hc
        have HNO := Aside0.mk hno
        clear hc hno
        go_wp2
        go_ret
        exact ⟨by rw [HNO.out]; rfl, HB2.out⟩
theorem formedB_ex : ∀ x : S27, formedB x = true → ∃ e, x = ofEx e := by
  intro x
  induction x using S27.ind with
  | h x ih =>
  intro h
  obtain ⟨op, n, l⟩ := x
  rcases shapes l with rfl | ⟨a, rfl⟩ | ⟨a, b, rfl⟩ | ⟨a, b, c, r, rfl⟩
  · rw [formedB_nil] at h
    simp only [Bool.or_eq_true, Bool.and_eq_true, decide_eq_true_eq] at h
    rcases h with ⟨rfl, h⟩ | ⟨⟨rfl, h⟩, h2⟩
    · obtain ⟨k, rfl⟩ := Int.eq_ofNat_of_zero_le h
      exact ⟨.num k, rfl⟩
    · obtain ⟨k, rfl⟩ := Int.eq_ofNat_of_zero_le h
      exact ⟨.var ⟨k, by omega⟩, rfl⟩
  · rw [formedB_one] at h; cases h
  · rw [formedB_two] at h
    simp only [Bool.or_eq_true, Bool.and_eq_true, decide_eq_true_eq] at h
    obtain ⟨⟨⟨h1, rfl⟩, h3⟩, h4⟩ := h
    obtain ⟨ea, ha⟩ := ih a (by simp) h3
    obtain ⟨eb, hb⟩ := ih b (by simp) h4
    rcases h1 with rfl | rfl
    · exact ⟨.add ea eb, by rw [ofEx, ha, hb]⟩
    · exact ⟨.mul ea eb, by rw [ofEx, ha, hb]⟩
  · rw [formedB_more] at h; cases h
theorem formedB_of (e : Ex) : formedB (ofEx e) = true := by
  induction e with
  | num n => rw [ofEx, formedB_nil]; simp
  | var v => rw [ofEx, formedB_nil]; have := v.isLt; simp; omega
  | add a b iha ihb => rw [ofEx, formedB_two, iha, ihb]; rfl
  | mul a b iha ihb => rw [ofEx, formedB_two, iha, ihb]; rfl
theorem ofEx_inj : ∀ {a b : Ex}, ofEx a = ofEx b → a = b
  | .num n, .num m, h => by simp only [ofEx, S27.mk.injEq] at h; rw [Int.natCast_inj.1 h.2.1]
  | .var n, .var m, h => by simp only [ofEx, S27.mk.injEq] at h; rw [Fin.ext (Int.natCast_inj.1 h.2.1)]
  | .add a b, .add c d, h => by simp only [ofEx, S27.mk.injEq, List.cons.injEq] at h; rw [ofEx_inj h.2.2.1, ofEx_inj h.2.2.2.1]
  | .mul a b, .mul c d, h => by simp only [ofEx, S27.mk.injEq, List.cons.injEq] at h; rw [ofEx_inj h.2.2.1, ofEx_inj h.2.2.2.1]
  | .num _, .var _, h => by simp [ofEx] at h
  | .num _, .add _ _, h => by simp [ofEx] at h
  | .num _, .mul _ _, h => by simp [ofEx] at h
  | .var _, .num _, h => by simp [ofEx] at h
  | .var _, .add _ _, h => by simp [ofEx] at h
  | .var _, .mul _ _, h => by simp [ofEx] at h
  | .add _ _, .num _, h => by simp [ofEx] at h
  | .add _ _, .var _, h => by simp [ofEx] at h
  | .add _ _, .mul _ _, h => by simp [ofEx] at h
  | .mul _ _, .num _, h => by simp [ofEx] at h
  | .mul _ _, .var _, h => by simp [ofEx] at h
  | .mul _ _, .add _ _, h => by simp [ofEx] at h
theorem right_top (e : Ex) (t : Nat) : rightB (ofEx e) (t : Int) = decide (e.top ≤ t) := by
  induction e with
  | num n => rw [ofEx, rightB_nil, Ex.top, Bool.eq_iff_iff]; simp
  | var v => rw [ofEx, rightB_nil, Ex.top]; simp
  | add a b iha ihb => rw [ofEx, rightB_two, iha, ihb, Ex.top, Bool.eq_iff_iff]; simp; omega
  | mul a b iha ihb => rw [ofEx, rightB_two, iha, ihb, Ex.top, Bool.eq_iff_iff]; simp; omega
open Classical in
noncomputable def polyS (x : S27) : Option Po := if h : ∃ e, x = ofEx e then polyOf h.choose else none
theorem polyS_of (e : Ex) : polyS (ofEx e) = polyOf e := by
  unfold polyS
  rw [dif_pos ⟨e, rfl⟩]
  congr 1
  exact (ofEx_inj (Exists.choose_spec (⟨e, rfl⟩ : ∃ e', ofEx e = ofEx e'))).symm
theorem valid_ex {x : S27} (h : validB x = true) : ∃ e, x = ofEx e ∧ e.top ≤ 1000000 := by
  unfold validB at h
  rw [Bool.and_eq_true, Bool.and_eq_true] at h
  obtain ⟨e, rfl⟩ := formedB_ex x h.1.2
  have := h.2
  rw [show (1000000 : Int) = ((1000000 : Nat) : Int) from rfl, right_top, decide_eq_true_eq] at this
  exact ⟨e, rfl, this⟩
noncomputable def errB (x y : S27) : Int := if (validB x && validB y) = true then (if ((polyS x).isSome && (polyS y).isSome) = true then 0 else 2) else 4
set_option maxRecDepth 100000 in
set_option maxHeartbeats 4000000 in
theorem both_c (x y : S27) (A1 A2 : Option Addr) (c1 c2 : Nat) (w : World) (hn1 : nodes x ≤ 1152921504606846976) (hn2 : nodes y ≤ 1152921504606846976) (hr1 : k27.C w A1 x.f2.length x.f2) (hc1 : x.f2.length ≤ c1) (hr2 : k27.C w A2 y.f2.length y.f2) (hc2 : y.f2.length ≤ c2) :
    Calls Try.prog 54 #[.agg #[.int .i64 x.f0, .int .i64 x.f1, .slice A1 x.f2.length c1], .agg #[.int .i64 y.f0, .int .i64 y.f1, .slice A2 y.f2.length c2]] w fun e w' =>
      ∃ r1 r2 : Option Nat, e = .returned (.tuple #[.map r1, .map r2, .int .i64 (errB x y)]) ∧
        (errB x y = 0 → ∃ b1 b2 p q p' q', r1 = some b1 ∧ r2 = some b2 ∧ polyS x = some p ∧ polyS y = some q ∧ p'.Perm p ∧ q'.Perm q ∧ PIs w' b1 p' ∧ PIs w' b2 q' ∧ NF p ∧ NF q) ∧ Below w.heap.size w w' := by
  obtain ⟨W, hW⟩ : ∃ W, W = (w.alloc (.cells #[.int .i64 x.f0, .int .i64 x.f1, .slice A1 x.f2.length c1] 27)).alloc (.cells #[.int .i64 y.f0, .int .i64 y.f1, .slice A2 y.f2.length c2] 27) := ⟨_, rfl⟩
  have HB := Aside0.mk (below_alloc (below_alloc (Below.refl w.heap.size w) (.cells #[.int .i64 x.f0, .int .i64 x.f1, .slice A1 x.f2.length c1] 27)) (.cells #[.int .i64 y.f0, .int .i64 y.f1, .slice A2 y.f2.length c2] 27))
  have x1 : ((w.alloc (.cells #[.int .i64 x.f0, .int .i64 x.f1, .slice A1 x.f2.length c1] 27)).alloc (.cells #[.int .i64 y.f0, .int .i64 y.f1, .slice A2 y.f2.length c2] 27)).heap[w.heap.size]? = some (.cells #[.int .i64 x.f0, .int .i64 x.f1, .slice A1 x.f2.length c1] 27 (0, 0)) := by
    rw [Below.heap_alloc _ _ _ (by simp)]; exact heap_alloc_new _ _
  have y1 : ((w.alloc (.cells #[.int .i64 x.f0, .int .i64 x.f1, .slice A1 x.f2.length c1] 27)).alloc (.cells #[.int .i64 y.f0, .int .i64 y.f1, .slice A2 y.f2.length c2] 27)).heap[w.heap.size + 1]? = some (.cells #[.int .i64 y.f0, .int .i64 y.f1, .slice A2 y.f2.length c2] 27 (0, 0)) := by
    have := heap_alloc_new (w.alloc (.cells #[.int .i64 x.f0, .int .i64 x.f1, .slice A1 x.f2.length c1] 27)) (.cells #[.int .i64 y.f0, .int .i64 y.f1, .slice A2 y.f2.length c2] 27)
    rwa [World.size_alloc] at this
  have X1 := Aside0.mk x1
  have Y1 := Aside0.mk y1
  have R1 := Aside0.mk hr1
  have R2 := Aside0.mk hr2
  have C1 := Aside0.mk hc1
  have C2 := Aside0.mk hc2
  have N1 := Aside0.mk hn1
  have N2 := Aside0.mk hn2
  clear x1 y1 hr1 hr2 hc1 hc2 hn1 hn2 hW W
  go_enter Try.func54, Try.ntmps54
  go_wp2_with fail
  refine (valid_c x A1 c1 _ N1.out (Kd.C_below R1.out HB.out) C1.out).mono ?_
  rintro e w2 ⟨rfl, hb⟩
  have HB2 := Aside0.mk (below_then HB.out HB.out.size hb)
  have X2 := Aside0.mk ((hb.block _ (blk_lt X1.out)).trans X1.out)
  have Y2 := Aside0.mk ((hb.block _ (blk_lt Y1.out)).trans Y1.out)
  have u0 : w2.cell? ⟨w.heap.size + 1, 0, none⟩ = some (.int .i64 y.f0) := (blk_cell Y2.out 0).trans rfl
  have u1 : w2.cell? ⟨w.heap.size + 1, 1, none⟩ = some (.int .i64 y.f1) := (blk_cell Y2.out 1).trans rfl
  have u2 : w2.cell? ⟨w.heap.size + 1, 2, none⟩ = some (.slice A2 y.f2.length c2) := (blk_cell Y2.out 2).trans rfl
  clear hb X1 Y1
  cases hvx : validB x with
  | false =>
    have HE := Aside0.mk (show errB x y = 4 by unfold errB; rw [hvx]; rfl)
    clear hvx
    go_wp2
    go_ret3
    exact ⟨none, none, by rw [HE.out]; rfl, (fun h => by rw [HE.out] at h; cases h), HB2.out⟩
  | true =>
    have VX := Aside0.mk hvx
    clear hvx
    go_wp2_with fail
    refine (valid_c y A2 c2 _ N2.out (Kd.C_below R2.out HB2.out) C2.out).mono ?_
    rintro e w3 ⟨rfl, hb⟩
    have HB3 := Aside0.mk (below_then HB2.out HB2.out.size hb)
    have X3 := Aside0.mk ((hb.block _ (blk_lt X2.out)).trans X2.out)
    have Y3 := Aside0.mk ((hb.block _ (blk_lt Y2.out)).trans Y2.out)
    have t0 : w3.cell? ⟨w.heap.size, 0, none⟩ = some (.int .i64 x.f0) := (blk_cell X3.out 0).trans rfl
    have t1 : w3.cell? ⟨w.heap.size, 1, none⟩ = some (.int .i64 x.f1) := (blk_cell X3.out 1).trans rfl
    have t2 : w3.cell? ⟨w.heap.size, 2, none⟩ = some (.slice A1 x.f2.length c1) := (blk_cell X3.out 2).trans rfl
    clear hb X2 Y2 u0 u1 u2
    cases hvy : validB y with
    | false =>
      have HE := Aside0.mk (show errB x y = 4 by unfold errB; rw [VX.out, hvy]; rfl)
      clear hvy
      go_wp2
      go_ret3
      exact ⟨none, none, by rw [HE.out]; rfl, (fun h => by rw [HE.out] at h; cases h), HB3.out⟩
    | true =>
      have VY := Aside0.mk hvy
      clear hvy
      obtain ⟨ex, hex, htx⟩ := valid_ex VX.out
      obtain ⟨ey, hey, hty⟩ := valid_ex VY.out
      have TX := Aside0.mk htx
      have TY := Aside0.mk hty
      have EX := Aside0.mk hex
      have EY := Aside0.mk hey
      have NX := Aside0.mk (normal_c ex (by omega) A1 c1 w3 (by rw [← hex]; exact Kd.C_below R1.out HB3.out) (by rw [← hex]; exact C1.out))
      rw [← hex] at NX
      clear htx hty hex hey
      go_wp2_with fail
      refine NX.out.mono ?_
      rintro e w4 ⟨ra, rfl, hra, hba⟩
      have HB4 := Aside0.mk (below_then HB3.out HB3.out.size hba)
      have Y4 := Aside0.mk ((hba.block _ (blk_lt Y3.out)).trans Y3.out)
      have u0 : w4.cell? ⟨w.heap.size + 1, 0, none⟩ = some (.int .i64 y.f0) := (blk_cell Y4.out 0).trans rfl
      have u1 : w4.cell? ⟨w.heap.size + 1, 1, none⟩ = some (.int .i64 y.f1) := (blk_cell Y4.out 1).trans rfl
      have u2 : w4.cell? ⟨w.heap.size + 1, 2, none⟩ = some (.slice A2 y.f2.length c2) := (blk_cell Y4.out 2).trans rfl
      have RA := Aside0.mk hra
      have NY := Aside0.mk (normal_c ey (by have := TY.out; omega) A2 c2 w4 (by rw [← EY.out]; exact Kd.C_below R2.out HB4.out) (by rw [← EY.out]; exact C2.out))
      rw [← EY.out] at NY
      obtain ⟨oa, hoa⟩ : ∃ oa, oa = (polyOf ex).isSome := ⟨_, rfl⟩
      rw [← hoa]
      have OA := Aside0.mk hoa
      clear hra hba hoa t0 t1 t2 NX
      go_wp2_with fail
      refine NY.out.mono ?_
      rintro e w5 ⟨rb, rfl, hrb, hbb⟩
      have HB5 := Aside0.mk (below_then HB4.out HB4.out.size hbb)
      have HBB := Aside0.mk hbb
      have RB := Aside0.mk hrb
      obtain ⟨ob, hob⟩ : ∃ ob, ob = (polyOf ey).isSome := ⟨_, rfl⟩
      rw [← hob]
      have OB := Aside0.mk hob
      have HEq := Aside0.mk (show errB x y = if (oa && ob) = true then 0 else 2 by
        unfold errB
        rw [VX.out, VY.out, EX.out, EY.out, polyS_of, polyS_of, ← OA.out, ← hob]
        rfl)
      clear hrb hbb hob NY u0 u1 u2
      cases oa with
      | false =>
        have HE := Aside0.mk (show errB x y = 2 by rw [HEq.out]; rfl)
        clear HEq
        go_wp2
        go_ret3
        exact ⟨none, none, by rw [HE.out]; rfl, (fun h => by rw [HE.out] at h; cases h), HB5.out⟩
      | true =>
        cases ob with
        | false =>
          have HE := Aside0.mk (show errB x y = 2 by rw [HEq.out]; rfl)
          clear HEq
          go_wp2
          go_ret3
          exact ⟨none, none, by rw [HE.out]; rfl, (fun h => by rw [HE.out] at h; cases h), HB5.out⟩
        | true =>
          have HE := Aside0.mk (show errB x y = 0 by rw [HEq.out]; rfl)
          clear HEq
          go_wp2
          go_ret3
          refine ⟨ra, rb, by rw [HE.out]; rfl, (fun _ => ?_), HB5.out⟩
          obtain ⟨p, hp⟩ : ∃ p, polyOf ex = some p := by have := OA.out; cases h : polyOf ex with | none => rw [h] at this; cases this | some p => exact ⟨p, rfl⟩
          obtain ⟨q, hq⟩ : ∃ q, polyOf ey = some q := by have := OB.out; cases h : polyOf ey with | none => rw [h] at this; cases this | some q => exact ⟨q, rfl⟩
          obtain ⟨b1, p', h1, h2, h3⟩ := RA.out p hp
          obtain ⟨b2, q', h4, h5, h6⟩ := RB.out q hq
          exact ⟨b1, b2, p, q, p', q', h1, h4, by rw [EX.out, polyS_of]; exact hp, by rw [EY.out, polyS_of]; exact hq, h3, h6, h2.kept (grown_of_below HBB.out none) (by simp), h5, nf_poly ex p (by have := TX.out; omega) hp, nf_poly ey q (by have := TY.out; omega) hq⟩
open Classical in
noncomputable def equalB (x y : S27) : Bool := decide (errB x y = 0 ∧ ∃ p q, polyS x = some p ∧ polyS y = some q ∧ p.Perm q)
open Classical in
theorem equalB_iff {x y : S27} : equalB x y = true ↔ (errB x y = 0 ∧ ∃ p q, polyS x = some p ∧ polyS y = some q ∧ p.Perm q) := by
  unfold equalB
  exact decide_eq_true_iff
set_option maxRecDepth 100000 in
set_option maxHeartbeats 4000000 in
theorem equal_c (x y : S27) (A1 A2 : Option Addr) (c1 c2 : Nat) (w : World) (hn1 : nodes x ≤ 1152921504606846976) (hn2 : nodes y ≤ 1152921504606846976) (hr1 : k27.C w A1 x.f2.length x.f2) (hc1 : x.f2.length ≤ c1) (hr2 : k27.C w A2 y.f2.length y.f2) (hc2 : y.f2.length ≤ c2) :
    Calls Try.prog 44 #[.agg #[.int .i64 x.f0, .int .i64 x.f1, .slice A1 x.f2.length c1], .agg #[.int .i64 y.f0, .int .i64 y.f1, .slice A2 y.f2.length c2]] w fun e w' =>
      e = .returned (.tuple #[.bool (equalB x y), .int .i64 (errB x y)]) ∧ Below w.heap.size w w' := by
  have HB := Aside0.mk (below_alloc (below_alloc (Below.refl w.heap.size w) (.cells #[.int .i64 x.f0, .int .i64 x.f1, .slice A1 x.f2.length c1] 27)) (.cells #[.int .i64 y.f0, .int .i64 y.f1, .slice A2 y.f2.length c2] 27))
  have HC := Aside0.mk (both_c x y A1 A2 c1 c2 _ hn1 hn2 (Kd.C_below hr1 HB.out) hc1 (Kd.C_below hr2 HB.out) hc2)
  clear hn1 hn2 hr1 hc1 hr2 hc2
  go_enter Try.func44, Try.ntmps44
  go_wp2_with fail
  refine HC.out.mono ?_
  rintro e w2 ⟨r1, r2, rfl, hr, hb⟩
  have HB2 := Aside0.mk (below_then HB.out HB.out.size hb)
  have HR := Aside0.mk hr
  obtain ⟨er, her⟩ : ∃ er, er = errB x y := ⟨_, rfl⟩
  obtain ⟨eq, heq⟩ : ∃ eq, eq = equalB x y := ⟨_, rfl⟩
  rw [← her]
  have HER := Aside0.mk her
  have HEQ := Aside0.mk heq
  clear hr hb her heq HC
  by_cases h0 : er = 0
  · subst h0
    obtain ⟨b1, b2, p, q, p', q', rfl, rfl, h3, h4, h5, h6, h7, h8, h9, h10⟩ := HR.out HER.out.symm
    have HS := Aside0.mk (same_c b1 b2 p' q' w2 h7 h8 (good_perm h5.symm h9.good))
    have HP := Aside0.mk (same_perm h7.nodup h8.nodup (okP_perm h5.symm h9.good.gp))
    have he : eq = (p'.all (fun m => decide (coef m.1 q' = m.2)) && decide (p'.length = q'.length)) := by
      rw [HEQ.out, Bool.eq_iff_iff, HP.out, equalB_iff]
      constructor
      · rintro ⟨_, p1, q1, e1, e2, e3⟩
        rw [h3] at e1; rw [h4] at e2
        injection e1 with e1; injection e2 with e2
        rw [← e1, ← e2] at e3
        exact (h5.trans e3).trans h6.symm
      · intro hpp
        exact ⟨HER.out.symm, p, q, h3, h4, (h5.symm.trans hpp).trans h6⟩
    have HE := Aside0.mk he
    rw [← he] at HS
    clear h3 h4 h5 h6 h7 h8 h9 h10 he HP
    go_wp2_with fail
    refine HS.out.mono ?_
    rintro e w3 ⟨rfl, hb⟩
    have HB3 := Aside0.mk (below_then HB2.out HB2.out.size hb)
    clear hb
    go_wp2
    go_ret2
    exact ⟨by rw [← HEQ.out, ← HER.out]; rfl, HB3.out⟩
  · have b0 : (er == 0) = false := by simp [h0]
    have he : eq = false := by
      rw [HEQ.out]
      cases h : equalB x y with
      | false => rfl
      | true => exact absurd (HER.out.trans (equalB_iff.1 h).1) h0
    have HE := Aside0.mk he
    clear h0 he
    go_wp2
    go_ret2
    exact ⟨by rw [← HEQ.out, ← HER.out, HE.out]; rfl, HB2.out⟩
end Go.Proofs.Ythkclagcbjnckaa.Pa


namespace Go.Proofs.Ythkclagcbjnckaa.Pa
open Go.RowKit Go.Proofs.YthkclagcbjnckaaW.PrintWords Go.Proofs.YthkclagcbjnckaaW.PrintLast Go.Proofs.YthkclagcbjnckaaW.PrintMore
attribute [local go_sem] max2_int min2_int max_two min_two max_three min_three max_four min_four
set_option linter.unusedVariables false
set_option linter.unusedSimpArgs false
def tenetref24_Two.f (a0 : Int) (a1_0 : Int) (a1_1 : Int) (l1_2 : List (S27)) (a2_0 : Int) (a2_1 : Int) (l2_2 : List (S27)) : Option (Int × Int × (List (S27))) := some (a0, 0, (([(⟨a1_0, a1_1, l1_2⟩ : S27), (⟨a2_0, a2_1, l2_2⟩ : S27)] : List (S27))))
set_option maxHeartbeats 8000000 in
set_option maxRecDepth 100000 in
theorem tenetref24_Two.calls (a0 : Int) (a1_0 : Int) (a1_1 : Int) (P1_2_ : Nat → Prop) (A1_2 : Option Addr) (c1_2 : Nat) (l1_2 : List (S27)) (a2_0 : Int) (a2_1 : Int) (P2_2_ : Nat → Prop) (A2_2 : Option Addr) (c2_2 : Nat) (l2_2 : List (S27)) (r1 : Int) (r2 : Int) (r3 : List (S27)) (w : World) (hs1_2 : Kd.V k27 27 w w.heap.size (fun k_ => P1_2_ k_) (.slice A1_2 l1_2.length c1_2) l1_2) (hs2_2 : Kd.V k27 27 w w.heap.size (fun k_ => P2_2_ k_) (.slice A2_2 l2_2.length c2_2) l2_2) (h : tenetref24_Two.f a0 a1_0 a1_1 l1_2 a2_0 a2_1 l2_2 = some (r1, r2, r3)) :
  Calls Try.prog 52 #[.int .i64 a0, .agg #[.int .i64 a1_0, .int .i64 a1_1, .slice A1_2 l1_2.length c1_2], .agg #[.int .i64 a2_0, .int .i64 a2_1, .slice A2_2 l2_2.length c2_2]] w fun e w' => ∃ v2_ : Value, e = .returned (.agg #[.int .i64 r1, .int .i64 r2, v2_]) ∧ Kd.N k27 27 w' w.heap.size (fun k_ => ((P1_2_ k_ ∨ P2_2_ k_) ∨ w.heap.size ≤ k_)) v2_ r3 ∧ Below w.heap.size w w' := by
 have hu27 := Try.underlying27
 have HO1_2 := Aside0.mk (show Kd.V k27 27 w w.heap.size (fun k_ => ((P1_2_ k_ ∨ P2_2_ k_) ∨ w.heap.size ≤ k_)) (.slice A1_2 l1_2.length c1_2) l1_2 from Kd.V_mono hs1_2 (fun k_ hk => .inl (.inl hk)))
 have HO2_2 := Aside0.mk (show Kd.V k27 27 w w.heap.size (fun k_ => ((P1_2_ k_ ∨ P2_2_ k_) ∨ w.heap.size ≤ k_)) (.slice A2_2 l2_2.length c2_2) l2_2 from Kd.V_mono hs2_2 (fun k_ hk => .inl (.inr hk)))
 have HB := Aside0.mk (Below.refl w.heap.size w)
 have H : (some (a0, 0, (([(⟨a1_0, a1_1, l1_2⟩ : S27), (⟨a2_0, a2_1, l2_2⟩ : S27)] : List (S27))))) = some (r1, r2, r3) := h
 clear h
 obtain ⟨y105, hy105⟩ : ∃ y_ : List (S27), y_ = (([(⟨a1_0, a1_1, l1_2⟩ : S27), (⟨a2_0, a2_1, l2_2⟩ : S27)] : List (S27))) := ⟨_, rfl⟩
 replace H : (some (a0, 0, y105)) = some (r1, r2, r3) := by first | (rw [hy105]; with_reducible exact H) | (have H2_ := (Option.bind_some _ _).symm.trans H; rw [hy105]; with_reducible exact H2_) | (have H2_ := (Option.bind_some _ _).symm.trans H; with_reducible exact H2_) | with_reducible exact H | (rw [hy105]; exact H) | exact H
 have Ny105 := Aside0.mk hy105
 clear hy105
 simp only [Option.some.injEq, Prod.mk.injEq] at H
 obtain ⟨rfl, rfl, rfl⟩ := H
 go_enter Try.func52, Try.ntmps52
 go_wp2_with (first | ((with_reducible refine gate_dst (N := 4) rfl ?_); refine box_event ?hg (N := 4) ?hd (cs := #[.int .i64 a1_0, .int .i64 a1_1, .slice A1_2 l1_2.length c1_2]) (t := 27) ?hr ?_; (case hd => rfl); (case hg => rfl); (case hr => first | (go_simp; done) | (go_simp; rfl)); intro gb102 hg w4 hbox hb; have n0_ := Aside0.mk (Kd.V_below (Kd.V_elderB (by (with_reducible repeat (first | apply Kd.V_alloc | apply Kd.V_drewN | apply Kd.V_drew)); exact HO1_2.out) gb102 (Nat.le_of_eq hg.symm)) hb); have n1_ := Aside0.mk (Kd.V_below (Kd.V_elderB (by (with_reducible repeat (first | apply Kd.V_alloc | apply Kd.V_drewN | apply Kd.V_drew)); exact HO2_2.out) gb102 (Nat.le_of_eq hg.symm)) hb); have n2_ := Aside0.mk (below_step (by repeat (first | (with_reducible first | exact HB.out | apply below_alloc | apply pw_below_drewN | apply below_drew1) | exact HB.out)) hb); have n3_ := Aside0.mk (hbox); have n4_ := Aside0.mk ((by rw [hg]; exact (below_size (by repeat (first | (with_reducible first | exact HB.out | apply below_alloc | apply pw_below_drewN | apply below_drew1) | exact HB.out))) : w.heap.size ≤ gb102)); have n5_ := Aside0.mk ((by rw [hg]; exact (below_size (by repeat (first | (with_reducible first | exact HB.out | apply below_alloc | apply pw_below_drewN | apply below_drew1) | exact HB.out))) : w.heap.size ≤ gb102)); clear HO1_2; clear HO2_2; clear HB; have HO1_2 := n0_; have HO2_2 := n1_; have HB := n2_; have BK102 := n3_; have GW102 := n4_; have GE102 := n5_; clear n0_ n1_ n2_ n3_ n4_ n5_; clear hb hbox hg) | ((with_reducible refine gate_dst (N := 5) rfl ?_); refine box_event ?hg (N := 5) ?hd (cs := #[.int .i64 a2_0, .int .i64 a2_1, .slice A2_2 l2_2.length c2_2]) (t := 27) ?hr ?_; (case hd => rfl); (case hg => rfl); (case hr => first | (go_simp; done) | (go_simp; rfl)); intro gb103 hg w5 hbox hb; have n0_ := Aside0.mk (Kd.V_below (Kd.V_elderB (by (with_reducible repeat (first | apply Kd.V_alloc | apply Kd.V_drewN | apply Kd.V_drew)); exact HO1_2.out) gb103 (Nat.le_of_eq hg.symm)) hb); have n1_ := Aside0.mk (Kd.V_below (Kd.V_elderB (by (with_reducible repeat (first | apply Kd.V_alloc | apply Kd.V_drewN | apply Kd.V_drew)); exact HO2_2.out) gb103 (Nat.le_of_eq hg.symm)) hb); have n2_ := Aside0.mk (blk_below (g := gb102) (o := .cells #[.int .i64 a1_0, .int .i64 a1_1, .slice A1_2 l1_2.length c1_2] 27 (0, 0)) (by (with_reducible repeat (first | refine blk_drewN ?_ _ | refine blk_drew ?_ | refine blk_alloc ?_ _)); exact BK102.out) hb); have n3_ := Aside0.mk (below_step (by repeat (first | (with_reducible first | exact HB.out | apply below_alloc | apply pw_below_drewN | apply below_drew1 | refine below_set ?_ GE102.out) | exact HB.out)) hb); have n4_ := Aside0.mk (hbox); have n5_ := Aside0.mk ((by rw [hg]; exact (below_size (by repeat (first | (with_reducible first | exact HB.out | apply below_alloc | apply pw_below_drewN | apply below_drew1 | refine below_set ?_ GE102.out) | exact HB.out))) : w.heap.size ≤ gb103)); have n6_ := Aside0.mk ((by rw [hg]; exact (below_size (by repeat (first | (with_reducible first | exact HB.out | apply below_alloc | apply pw_below_drewN | apply below_drew1 | refine below_set ?_ GE102.out) | exact HB.out))) : w.heap.size ≤ gb103)); have n7_ := Aside0.mk ((by rw [hg]; exact Nat.ne_of_lt (blk_lt (g := gb102) (o := .cells #[.int .i64 a1_0, .int .i64 a1_1, .slice A1_2 l1_2.length c1_2] 27 (0, 0)) (by (with_reducible repeat (first | refine blk_drewN ?_ _ | refine blk_drew ?_ | refine blk_alloc ?_ _)); exact BK102.out)) : gb102 ≠ gb103)); have n8_ := Aside0.mk ((by rw [hg]; exact Nat.ne_of_gt (blk_lt (g := gb102) (o := .cells #[.int .i64 a1_0, .int .i64 a1_1, .slice A1_2 l1_2.length c1_2] 27 (0, 0)) (by (with_reducible repeat (first | refine blk_drewN ?_ _ | refine blk_drew ?_ | refine blk_alloc ?_ _)); exact BK102.out)) : gb103 ≠ gb102)); clear HO1_2; clear HO2_2; clear BK102; clear HB; have HO1_2 := n0_; have HO2_2 := n1_; have BK102 := n2_; have HB := n3_; have BK103 := n4_; have GW103 := n5_; have GE103 := n6_; have NB102_103 := n7_; have NB103_102 := n8_; clear n0_ n1_ n2_ n3_ n4_ n5_ n6_ n7_ n8_; clear hb hbox hg) | ((with_reducible refine gate_dst (N := 6) rfl ?_); refine box_event ?hg (N := 6) ?hd (cs := #[.int .i64 0, .int .i64 0, .slice none 0 0]) (t := 27) ?hr ?_; (case hd => rfl); (case hg => rfl); (case hr => first | (go_simp; done) | (go_simp; rfl)); intro gb104 hg w6 hbox hb; have n0_ := Aside0.mk (Kd.V_below (Kd.V_elderB (by (with_reducible repeat (first | apply Kd.V_alloc | apply Kd.V_drewN | apply Kd.V_drew)); exact HO1_2.out) gb104 (Nat.le_of_eq hg.symm)) hb); have n1_ := Aside0.mk (Kd.V_below (Kd.V_elderB (by (with_reducible repeat (first | apply Kd.V_alloc | apply Kd.V_drewN | apply Kd.V_drew)); exact HO2_2.out) gb104 (Nat.le_of_eq hg.symm)) hb); have n2_ := Aside0.mk (blk_below (g := gb102) (o := .cells #[.int .i64 a1_0, .int .i64 a1_1, .slice A1_2 l1_2.length c1_2] 27 (0, 0)) (by (with_reducible repeat (first | refine blk_drewN ?_ _ | refine blk_drew ?_ | refine blk_alloc ?_ _)); exact BK102.out) hb); have n3_ := Aside0.mk (blk_below (g := gb103) (o := .cells #[.int .i64 a2_0, .int .i64 a2_1, .slice A2_2 l2_2.length c2_2] 27 (0, 0)) (by (with_reducible repeat (first | refine blk_drewN ?_ _ | refine blk_drew ?_ | refine blk_alloc ?_ _)); exact BK103.out) hb); have n4_ := Aside0.mk (below_step (by repeat (first | (with_reducible first | exact HB.out | apply below_alloc | apply pw_below_drewN | apply below_drew1 | refine below_set ?_ GE102.out | refine below_set ?_ GE103.out) | exact HB.out)) hb); have n5_ := Aside0.mk (hbox); have n6_ := Aside0.mk ((by rw [hg]; exact (below_size (by repeat (first | (with_reducible first | exact HB.out | apply below_alloc | apply pw_below_drewN | apply below_drew1 | refine below_set ?_ GE102.out | refine below_set ?_ GE103.out) | exact HB.out))) : w.heap.size ≤ gb104)); have n7_ := Aside0.mk ((by rw [hg]; exact (below_size (by repeat (first | (with_reducible first | exact HB.out | apply below_alloc | apply pw_below_drewN | apply below_drew1 | refine below_set ?_ GE102.out | refine below_set ?_ GE103.out) | exact HB.out))) : w.heap.size ≤ gb104)); have n8_ := Aside0.mk ((by rw [hg]; exact Nat.ne_of_lt (blk_lt (g := gb102) (o := .cells #[.int .i64 a1_0, .int .i64 a1_1, .slice A1_2 l1_2.length c1_2] 27 (0, 0)) (by (with_reducible repeat (first | refine blk_drewN ?_ _ | refine blk_drew ?_ | refine blk_alloc ?_ _)); exact BK102.out)) : gb102 ≠ gb104)); have n9_ := Aside0.mk ((by rw [hg]; exact Nat.ne_of_gt (blk_lt (g := gb102) (o := .cells #[.int .i64 a1_0, .int .i64 a1_1, .slice A1_2 l1_2.length c1_2] 27 (0, 0)) (by (with_reducible repeat (first | refine blk_drewN ?_ _ | refine blk_drew ?_ | refine blk_alloc ?_ _)); exact BK102.out)) : gb104 ≠ gb102)); have n10_ := Aside0.mk ((by rw [hg]; exact Nat.ne_of_lt (blk_lt (g := gb103) (o := .cells #[.int .i64 a2_0, .int .i64 a2_1, .slice A2_2 l2_2.length c2_2] 27 (0, 0)) (by (with_reducible repeat (first | refine blk_drewN ?_ _ | refine blk_drew ?_ | refine blk_alloc ?_ _)); exact BK103.out)) : gb103 ≠ gb104)); have n11_ := Aside0.mk ((by rw [hg]; exact Nat.ne_of_gt (blk_lt (g := gb103) (o := .cells #[.int .i64 a2_0, .int .i64 a2_1, .slice A2_2 l2_2.length c2_2] 27 (0, 0)) (by (with_reducible repeat (first | refine blk_drewN ?_ _ | refine blk_drew ?_ | refine blk_alloc ?_ _)); exact BK103.out)) : gb104 ≠ gb103)); clear HO1_2; clear HO2_2; clear BK102; clear BK103; clear HB; have HO1_2 := n0_; have HO2_2 := n1_; have BK102 := n2_; have BK103 := n3_; have HB := n4_; have BK104 := n5_; have GW104 := n6_; have GE104 := n7_; have NB102_104 := n8_; have NB104_102 := n9_; have NB103_104 := n10_; have NB104_103 := n11_; clear n0_ n1_ n2_ n3_ n4_ n5_ n6_ n7_ n8_ n9_ n10_ n11_; clear hb hbox hg; have hnb7 := NB102_103.out; have hnc7 := NB103_102.out; have hnb8 := NB102_104.out; have hnc8 := NB104_102.out; have hcz9_0 : w6.cell? ⟨gb102, 0, none⟩ = some (.int .i64 a1_0) := (blk_cell BK102.out 0).trans rfl; have hcz9_1 : w6.cell? ⟨gb102, 1, none⟩ = some (.int .i64 a1_1) := (blk_cell BK102.out 1).trans rfl; have hcz9_2 : w6.cell? ⟨gb102, 2, none⟩ = some (.slice A1_2 l1_2.length c1_2) := (blk_cell BK102.out 2).trans rfl; have hfz9_0 := blk_frozen BK102.out 0; have hfz9_1 := blk_frozen BK102.out 1; have hfz9_2 := blk_frozen BK102.out 2; have hnb10 := NB103_104.out; have hnc10 := NB104_103.out; have hcz11_0 : w6.cell? ⟨gb103, 0, none⟩ = some (.int .i64 a2_0) := (blk_cell BK103.out 0).trans rfl; have hcz11_1 : w6.cell? ⟨gb103, 1, none⟩ = some (.int .i64 a2_1) := (blk_cell BK103.out 1).trans rfl; have hcz11_2 : w6.cell? ⟨gb103, 2, none⟩ = some (.slice A2_2 l2_2.length c2_2) := (blk_cell BK103.out 2).trans rfl; have hfz11_0 := blk_frozen BK103.out 0; have hfz11_1 := blk_frozen BK103.out 1; have hfz11_2 := blk_frozen BK103.out 2) | ((with_reducible refine gate_dst (N := 10) rfl ?_); refine Kd.N_lit k27 _ 27 ?hg (N' := 10) ?hd (xs := ([(⟨a1_0, a1_1, l1_2⟩ : S27), (⟨a2_0, a2_1, l2_2⟩ : S27)] : List (S27))) (inner := [.int .i64 a1_0, .int .i64 a1_1, .slice A1_2 l1_2.length c1_2, .int .i64 a2_0, .int .i64 a2_1, .slice A2_2 l2_2.length c2_2]) (ok := (fun k_ => ((P1_2_ k_ ∨ P2_2_ k_) ∨ w.heap.size ≤ k_) ∧ k_ ≠ gb102 ∧ k_ ≠ gb103 ∧ k_ ≠ gb104)) (okp := (fun k_ => ((P1_2_ k_ ∨ P2_2_ k_) ∨ w.heap.size ≤ k_) ∧ k_ ≠ gb102 ∧ k_ ≠ gb103 ∧ k_ ≠ gb104)) ?hr ?hp (fun _ hk => hk) ((show ∀ k_, w6.heap.size ≤ k_ → (fun k_ => ((P1_2_ k_ ∨ P2_2_ k_) ∨ w.heap.size ≤ k_) ∧ k_ ≠ gb102 ∧ k_ ≠ gb103 ∧ k_ ≠ gb104) k_ from fun k_ hk => ⟨(.inr (Nat.le_trans (below_size (by repeat (first | (with_reducible first | exact HB.out | apply below_alloc | apply pw_below_drewN | apply below_drew1 | refine below_set ?_ GE102.out | refine below_set ?_ GE103.out | refine below_set ?_ GE104.out) | exact HB.out))) hk)), Kd.freshB (g := gb102) (o := .cells #[.int .i64 a1_0, .int .i64 a1_1, .slice A1_2 l1_2.length c1_2] 27 (0, 0)) (by (with_reducible repeat (first | refine blk_drewN ?_ _ | refine blk_drew ?_ | refine blk_alloc ?_ _)); exact BK102.out) k_ hk, Kd.freshB (g := gb103) (o := .cells #[.int .i64 a2_0, .int .i64 a2_1, .slice A2_2 l2_2.length c2_2] 27 (0, 0)) (by (with_reducible repeat (first | refine blk_drewN ?_ _ | refine blk_drew ?_ | refine blk_alloc ?_ _)); exact BK103.out) k_ hk, Kd.freshB (g := gb104) (o := .cells #[.int .i64 0, .int .i64 0, .slice none 0 0] 27 (0, 0)) (by (with_reducible repeat (first | refine blk_drewN ?_ _ | refine blk_drew ?_ | refine blk_alloc ?_ _)); exact BK104.out) k_ hk⟩) _ (Nat.le_refl _)) (Below.refl _ _) (Nat.le_refl _) (by simp) ?_; (case hd => rfl); (case hg => rfl); (case hr => first | (go_simp; done) | (go_simp; rfl)); (case hp => exact (Reps.c3 (show Kd.FK k27 _ _ (⟨a1_0, a1_1, l1_2⟩ : S27) [.int .i64 a1_0, .int .i64 a1_1, .slice A1_2 l1_2.length c1_2] from (k27_mkF _ _ (⟨a1_0, a1_1, l1_2⟩ : S27) (Kd.V_reads' (Kd.V_mono (ok' := (fun k_ => ((P1_2_ k_ ∨ P2_2_ k_) ∨ w.heap.size ≤ k_) ∧ k_ ≠ gb102 ∧ k_ ≠ gb103 ∧ k_ ≠ gb104)) (HO1_2.out) (fun k_ hk => ⟨hk.1.1.1, ⟨hk.1.1.2, ⟨hk.1.2, hk.2⟩⟩⟩))).2.1 (Kd.V_F (Kd.V_mono (ok' := (fun k_ => ((P1_2_ k_ ∨ P2_2_ k_) ∨ w.heap.size ≤ k_) ∧ k_ ≠ gb102 ∧ k_ ≠ gb103 ∧ k_ ≠ gb104)) (HO1_2.out) (fun k_ hk => ⟨hk.1.1.1, ⟨hk.1.1.2, ⟨hk.1.2, hk.2⟩⟩⟩))))) (Reps.c3 (show Kd.FK k27 _ _ (⟨a2_0, a2_1, l2_2⟩ : S27) [.int .i64 a2_0, .int .i64 a2_1, .slice A2_2 l2_2.length c2_2] from (k27_mkF _ _ (⟨a2_0, a2_1, l2_2⟩ : S27) (Kd.V_reads' (Kd.V_mono (ok' := (fun k_ => ((P1_2_ k_ ∨ P2_2_ k_) ∨ w.heap.size ≤ k_) ∧ k_ ≠ gb102 ∧ k_ ≠ gb103 ∧ k_ ≠ gb104)) (HO2_2.out) (fun k_ hk => ⟨hk.1.1.1, ⟨hk.1.1.2, ⟨hk.1.2, hk.2⟩⟩⟩))).2.1 (Kd.V_F (Kd.V_mono (ok' := (fun k_ => ((P1_2_ k_ ∨ P2_2_ k_) ∨ w.heap.size ≤ k_) ∧ k_ ≠ gb102 ∧ k_ ≠ gb103 ∧ k_ ≠ gb104)) (HO2_2.out) (fun k_ hk => ⟨hk.1.1.1, ⟨hk.1.1.2, ⟨hk.1.2, hk.2⟩⟩⟩))))) (Reps.none _ _)))); intro v106 w12 ho13 hb hg_ hnew_; clear hg_ hnew_; (first | rw [← Ny105.out] at ho13 | (simp only [Int.reduceToNat] at ho13; rw [← Ny105.out] at ho13)); have n0_ := Aside0.mk (Kd.V_elder' (by (with_reducible repeat (first | apply Kd.V_alloc | apply Kd.V_drewN | apply Kd.V_drew)); exact HO1_2.out) (Kd.N_base ho13) hb); have n1_ := Aside0.mk (Kd.V_elder' (by (with_reducible repeat (first | apply Kd.V_alloc | apply Kd.V_drewN | apply Kd.V_drew)); exact HO2_2.out) (Kd.N_base ho13) hb); have n2_ := Aside0.mk (Kd.N_lower ho13 (below_size (by repeat (first | (with_reducible first | exact HB.out | apply below_alloc | apply pw_below_drewN | apply below_drew1 | refine below_set ?_ GE102.out | refine below_set ?_ GE103.out | refine below_set ?_ GE104.out) | exact HB.out)))); have n3_ := Aside0.mk (blk_below (g := gb102) (o := .cells #[.int .i64 a1_0, .int .i64 a1_1, .slice A1_2 l1_2.length c1_2] 27 (0, 0)) (by (with_reducible repeat (first | refine blk_drewN ?_ _ | refine blk_drew ?_ | refine blk_alloc ?_ _)); exact BK102.out) hb); have n4_ := Aside0.mk (blk_below (g := gb103) (o := .cells #[.int .i64 a2_0, .int .i64 a2_1, .slice A2_2 l2_2.length c2_2] 27 (0, 0)) (by (with_reducible repeat (first | refine blk_drewN ?_ _ | refine blk_drew ?_ | refine blk_alloc ?_ _)); exact BK103.out) hb); have n5_ := Aside0.mk (blk_below (g := gb104) (o := .cells #[.int .i64 0, .int .i64 0, .slice none 0 0] 27 (0, 0)) (by (with_reducible repeat (first | refine blk_drewN ?_ _ | refine blk_drew ?_ | refine blk_alloc ?_ _)); exact BK104.out) hb); have n6_ := Aside0.mk (below_step (by repeat (first | (with_reducible first | exact HB.out | apply below_alloc | apply pw_below_drewN | apply below_drew1 | refine below_set ?_ GE102.out | refine below_set ?_ GE103.out | refine below_set ?_ GE104.out) | exact HB.out)) hb); clear HO1_2; clear HO2_2; clear BK102; clear BK103; clear BK104; clear HB; have HO1_2 := n0_; have HO2_2 := n1_; have HO107 := n2_; have BK102 := n3_; have BK103 := n4_; have BK104 := n5_; have HB := n6_; clear n0_ n1_ n2_ n3_ n4_ n5_ n6_; clear hb ho13; obtain ⟨Ao14, co14, eo14⟩ := Kd.N_slice HO107.out; subst eo14; have hcz15_0 : w12.cell? ⟨gb104, 0, none⟩ = some (.int .i64 0) := (blk_cell BK104.out 0).trans rfl; have hcz15_1 : w12.cell? ⟨gb104, 1, none⟩ = some (.int .i64 0) := (blk_cell BK104.out 1).trans rfl; have hcz15_2 : w12.cell? ⟨gb104, 2, none⟩ = some (.slice none 0 0) := (blk_cell BK104.out 2).trans rfl; have hfz15_0 := blk_frozen BK104.out 0; have hfz15_1 := blk_frozen BK104.out 1; have hfz15_2 := blk_frozen BK104.out 2))
 refine bodyPost_ret (results_cell_row rfl _ _ gb104 27 #[.int .i64 a0, .int .i64 0, .slice Ao14 y105.length co14] (0, 0) _ rfl (by (with_reducible repeat (first | refine blk_drewN ?_ _ | refine blk_drew ?_ | refine blk_alloc ?_ _)); refine blk_put (cs := #[.int .i64 a0, .int .i64 0, .slice none 0 0]) ?_ 2 _ rfl; (with_reducible repeat (first | refine blk_drewN ?_ _ | refine blk_drew ?_ | refine blk_alloc ?_ _)); refine blk_put (cs := #[.int .i64 a0, .int .i64 0, .slice none 0 0]) ?_ 1 _ rfl; (with_reducible repeat (first | refine blk_drewN ?_ _ | refine blk_drew ?_ | refine blk_alloc ?_ _)); refine blk_put (cs := #[.int .i64 0, .int .i64 0, .slice none 0 0]) ?_ 0 _ rfl; (with_reducible repeat (first | refine blk_drewN ?_ _ | refine blk_drew ?_ | refine blk_alloc ?_ _)); exact BK104.out) Try.underlying27 rfl (by kernel_rfl)) rfl ?_
 exact ⟨_, by first | rfl | (simp [errW_none, errW_some] <;> rfl) | (simp [*, errW_none, errW_some] <;> rfl), by (with_reducible repeat (first | apply Kd.N_alloc | apply Kd.N_drewN | apply Kd.N_drew)); exact Kd.N_mono (Kd.N_far (p := ⟨gb104, 2, none⟩) (Kd.N_far (p := ⟨gb104, 1, none⟩) (Kd.N_far (p := ⟨gb104, 0, none⟩) (Kd.N_mono HO107.out (fun k_ hk => (⟨hk, hk.2.2.2⟩ : _ ∧ k_ ≠ gb104))) (fun _ hk => hk.2) (.int .i64 a0)) (fun _ hk => hk.2) (.int .i64 0)) (fun _ hk => hk.2) (.slice Ao14 y105.length co14)) (fun _ hk => hk.1.1), by repeat (first | (with_reducible first | exact HB.out | apply below_alloc | apply pw_below_drewN | apply below_drew1 | refine below_set ?_ GE102.out | refine below_set ?_ GE103.out | refine below_set ?_ GE104.out) | exact HB.out)⟩
end Go.Proofs.Ythkclagcbjnckaa.Pa


namespace Go.Proofs.Ythkclagcbjnckaa.Pa
open Go.RowKit Go.Proofs.YthkclagcbjnckaaW.PrintWords Go.Proofs.YthkclagcbjnckaaW.PrintLast Go.Proofs.YthkclagcbjnckaaW.PrintMore
attribute [local go_sem] max2_int min2_int max_two min_two max_three min_three max_four min_four
set_option linter.unusedVariables false
set_option linter.unusedSimpArgs false
def tenetlaw24_add.f (a0_0 : Int) (a0_1 : Int) (l0_2 : List (S27)) (a1_0 : Int) (a1_1 : Int) (l1_2 : List (S27)) : Option (Int × Int × (List (S27))) := (tenetref24_Two.f 3 a0_0 a0_1 l0_2 a1_0 a1_1 l1_2).bind fun bt111 => (some (bt111.1, bt111.2.1, bt111.2.2))
set_option maxHeartbeats 8000000 in
set_option maxRecDepth 100000 in
theorem tenetlaw24_add.calls (a0_0 : Int) (a0_1 : Int) (P0_2_ : Nat → Prop) (A0_2 : Option Addr) (c0_2 : Nat) (l0_2 : List (S27)) (a1_0 : Int) (a1_1 : Int) (P1_2_ : Nat → Prop) (A1_2 : Option Addr) (c1_2 : Nat) (l1_2 : List (S27)) (r1 : Int) (r2 : Int) (r3 : List (S27)) (w : World) (hs0_2 : Kd.V k27 27 w w.heap.size (fun k_ => P0_2_ k_) (.slice A0_2 l0_2.length c0_2) l0_2) (hs1_2 : Kd.V k27 27 w w.heap.size (fun k_ => P1_2_ k_) (.slice A1_2 l1_2.length c1_2) l1_2) (h : tenetlaw24_add.f a0_0 a0_1 l0_2 a1_0 a1_1 l1_2 = some (r1, r2, r3)) :
  Calls Try.prog 39 #[.agg #[.int .i64 a0_0, .int .i64 a0_1, .slice A0_2 l0_2.length c0_2], .agg #[.int .i64 a1_0, .int .i64 a1_1, .slice A1_2 l1_2.length c1_2]] w fun e w' => ∃ v2_ : Value, e = .returned (.agg #[.int .i64 r1, .int .i64 r2, v2_]) ∧ Kd.N k27 27 w' w.heap.size (fun k_ => ((P0_2_ k_ ∨ P1_2_ k_) ∨ w.heap.size ≤ k_)) v2_ r3 ∧ Below w.heap.size w w' := by
 have hu27 := Try.underlying27
 have HO0_2 := Aside0.mk (show Kd.V k27 27 w w.heap.size (fun k_ => ((P0_2_ k_ ∨ P1_2_ k_) ∨ w.heap.size ≤ k_)) (.slice A0_2 l0_2.length c0_2) l0_2 from Kd.V_mono hs0_2 (fun k_ hk => .inl (.inl hk)))
 have HO1_2 := Aside0.mk (show Kd.V k27 27 w w.heap.size (fun k_ => ((P0_2_ k_ ∨ P1_2_ k_) ∨ w.heap.size ≤ k_)) (.slice A1_2 l1_2.length c1_2) l1_2 from Kd.V_mono hs1_2 (fun k_ hk => .inl (.inr hk)))
 have HB := Aside0.mk (Below.refl w.heap.size w)
 have H : ((tenetref24_Two.f 3 a0_0 a0_1 l0_2 a1_0 a1_1 l1_2).bind fun bt111 => (some (bt111.1, bt111.2.1, bt111.2.2))) = some (r1, r2, r3) := h
 clear h
 replace H := Option.bind_eq_some_iff.mp H
 obtain ⟨⟨t111, t112, t113⟩, A30, H⟩ := H
 replace H : (some (t111, t112, t113)) = some (r1, r2, r3) := H
 have A3 := Aside0.mk A30
 clear A30
 simp only [Option.some.injEq, Prod.mk.injEq] at H
 obtain ⟨rfl, rfl, rfl⟩ := H
 go_enter Try.func39, Try.ntmps39
 go_wp2_with (first | ((with_reducible refine gate_dst (N := 2) rfl ?_); refine box_event ?hg (N := 2) ?hd (cs := #[.int .i64 a0_0, .int .i64 a0_1, .slice A0_2 l0_2.length c0_2]) (t := 27) ?hr ?_; (case hd => rfl); (case hg => rfl); (case hr => first | (go_simp; done) | (go_simp; rfl)); intro gb108 hg w4 hbox hb; have n0_ := Aside0.mk (Kd.V_below (Kd.V_elderB (by (with_reducible repeat (first | apply Kd.V_alloc | apply Kd.V_drewN | apply Kd.V_drew)); exact HO0_2.out) gb108 (Nat.le_of_eq hg.symm)) hb); have n1_ := Aside0.mk (Kd.V_below (Kd.V_elderB (by (with_reducible repeat (first | apply Kd.V_alloc | apply Kd.V_drewN | apply Kd.V_drew)); exact HO1_2.out) gb108 (Nat.le_of_eq hg.symm)) hb); have n2_ := Aside0.mk (below_step (by repeat (first | (with_reducible first | exact HB.out | apply below_alloc | apply pw_below_drewN | apply below_drew1) | exact HB.out)) hb); have n3_ := Aside0.mk (hbox); have n4_ := Aside0.mk ((by rw [hg]; exact (below_size (by repeat (first | (with_reducible first | exact HB.out | apply below_alloc | apply pw_below_drewN | apply below_drew1) | exact HB.out))) : w.heap.size ≤ gb108)); have n5_ := Aside0.mk ((by rw [hg]; exact (below_size (by repeat (first | (with_reducible first | exact HB.out | apply below_alloc | apply pw_below_drewN | apply below_drew1) | exact HB.out))) : w.heap.size ≤ gb108)); clear HO0_2; clear HO1_2; clear HB; have HO0_2 := n0_; have HO1_2 := n1_; have HB := n2_; have BK108 := n3_; have GW108 := n4_; have GE108 := n5_; clear n0_ n1_ n2_ n3_ n4_ n5_; clear hb hbox hg) | ((with_reducible refine gate_dst (N := 3) rfl ?_); refine box_event ?hg (N := 3) ?hd (cs := #[.int .i64 a1_0, .int .i64 a1_1, .slice A1_2 l1_2.length c1_2]) (t := 27) ?hr ?_; (case hd => rfl); (case hg => rfl); (case hr => first | (go_simp; done) | (go_simp; rfl)); intro gb109 hg w5 hbox hb; have n0_ := Aside0.mk (Kd.V_below (Kd.V_elderB (by (with_reducible repeat (first | apply Kd.V_alloc | apply Kd.V_drewN | apply Kd.V_drew)); exact HO0_2.out) gb109 (Nat.le_of_eq hg.symm)) hb); have n1_ := Aside0.mk (Kd.V_below (Kd.V_elderB (by (with_reducible repeat (first | apply Kd.V_alloc | apply Kd.V_drewN | apply Kd.V_drew)); exact HO1_2.out) gb109 (Nat.le_of_eq hg.symm)) hb); have n2_ := Aside0.mk (blk_below (g := gb108) (o := .cells #[.int .i64 a0_0, .int .i64 a0_1, .slice A0_2 l0_2.length c0_2] 27 (0, 0)) (by (with_reducible repeat (first | refine blk_drewN ?_ _ | refine blk_drew ?_ | refine blk_alloc ?_ _)); exact BK108.out) hb); have n3_ := Aside0.mk (below_step (by repeat (first | (with_reducible first | exact HB.out | apply below_alloc | apply pw_below_drewN | apply below_drew1 | refine below_set ?_ GE108.out) | exact HB.out)) hb); have n4_ := Aside0.mk (hbox); have n5_ := Aside0.mk ((by rw [hg]; exact (below_size (by repeat (first | (with_reducible first | exact HB.out | apply below_alloc | apply pw_below_drewN | apply below_drew1 | refine below_set ?_ GE108.out) | exact HB.out))) : w.heap.size ≤ gb109)); have n6_ := Aside0.mk ((by rw [hg]; exact (below_size (by repeat (first | (with_reducible first | exact HB.out | apply below_alloc | apply pw_below_drewN | apply below_drew1 | refine below_set ?_ GE108.out) | exact HB.out))) : w.heap.size ≤ gb109)); have n7_ := Aside0.mk ((by rw [hg]; exact Nat.ne_of_lt (blk_lt (g := gb108) (o := .cells #[.int .i64 a0_0, .int .i64 a0_1, .slice A0_2 l0_2.length c0_2] 27 (0, 0)) (by (with_reducible repeat (first | refine blk_drewN ?_ _ | refine blk_drew ?_ | refine blk_alloc ?_ _)); exact BK108.out)) : gb108 ≠ gb109)); have n8_ := Aside0.mk ((by rw [hg]; exact Nat.ne_of_gt (blk_lt (g := gb108) (o := .cells #[.int .i64 a0_0, .int .i64 a0_1, .slice A0_2 l0_2.length c0_2] 27 (0, 0)) (by (with_reducible repeat (first | refine blk_drewN ?_ _ | refine blk_drew ?_ | refine blk_alloc ?_ _)); exact BK108.out)) : gb109 ≠ gb108)); clear HO0_2; clear HO1_2; clear BK108; clear HB; have HO0_2 := n0_; have HO1_2 := n1_; have BK108 := n2_; have HB := n3_; have BK109 := n4_; have GW109 := n5_; have GE109 := n6_; have NB108_109 := n7_; have NB109_108 := n8_; clear n0_ n1_ n2_ n3_ n4_ n5_ n6_ n7_ n8_; clear hb hbox hg) | ((with_reducible refine gate_dst (N := 4) rfl ?_); refine box_event ?hg (N := 4) ?hd (cs := #[.int .i64 0, .int .i64 0, .slice none 0 0]) (t := 27) ?hr ?_; (case hd => rfl); (case hg => rfl); (case hr => first | (go_simp; done) | (go_simp; rfl)); intro gb110 hg w6 hbox hb; have n0_ := Aside0.mk (Kd.V_below (Kd.V_elderB (by (with_reducible repeat (first | apply Kd.V_alloc | apply Kd.V_drewN | apply Kd.V_drew)); exact HO0_2.out) gb110 (Nat.le_of_eq hg.symm)) hb); have n1_ := Aside0.mk (Kd.V_below (Kd.V_elderB (by (with_reducible repeat (first | apply Kd.V_alloc | apply Kd.V_drewN | apply Kd.V_drew)); exact HO1_2.out) gb110 (Nat.le_of_eq hg.symm)) hb); have n2_ := Aside0.mk (blk_below (g := gb108) (o := .cells #[.int .i64 a0_0, .int .i64 a0_1, .slice A0_2 l0_2.length c0_2] 27 (0, 0)) (by (with_reducible repeat (first | refine blk_drewN ?_ _ | refine blk_drew ?_ | refine blk_alloc ?_ _)); exact BK108.out) hb); have n3_ := Aside0.mk (blk_below (g := gb109) (o := .cells #[.int .i64 a1_0, .int .i64 a1_1, .slice A1_2 l1_2.length c1_2] 27 (0, 0)) (by (with_reducible repeat (first | refine blk_drewN ?_ _ | refine blk_drew ?_ | refine blk_alloc ?_ _)); exact BK109.out) hb); have n4_ := Aside0.mk (below_step (by repeat (first | (with_reducible first | exact HB.out | apply below_alloc | apply pw_below_drewN | apply below_drew1 | refine below_set ?_ GE108.out | refine below_set ?_ GE109.out) | exact HB.out)) hb); have n5_ := Aside0.mk (hbox); have n6_ := Aside0.mk ((by rw [hg]; exact (below_size (by repeat (first | (with_reducible first | exact HB.out | apply below_alloc | apply pw_below_drewN | apply below_drew1 | refine below_set ?_ GE108.out | refine below_set ?_ GE109.out) | exact HB.out))) : w.heap.size ≤ gb110)); have n7_ := Aside0.mk ((by rw [hg]; exact (below_size (by repeat (first | (with_reducible first | exact HB.out | apply below_alloc | apply pw_below_drewN | apply below_drew1 | refine below_set ?_ GE108.out | refine below_set ?_ GE109.out) | exact HB.out))) : w.heap.size ≤ gb110)); have n8_ := Aside0.mk ((by rw [hg]; exact Nat.ne_of_lt (blk_lt (g := gb108) (o := .cells #[.int .i64 a0_0, .int .i64 a0_1, .slice A0_2 l0_2.length c0_2] 27 (0, 0)) (by (with_reducible repeat (first | refine blk_drewN ?_ _ | refine blk_drew ?_ | refine blk_alloc ?_ _)); exact BK108.out)) : gb108 ≠ gb110)); have n9_ := Aside0.mk ((by rw [hg]; exact Nat.ne_of_gt (blk_lt (g := gb108) (o := .cells #[.int .i64 a0_0, .int .i64 a0_1, .slice A0_2 l0_2.length c0_2] 27 (0, 0)) (by (with_reducible repeat (first | refine blk_drewN ?_ _ | refine blk_drew ?_ | refine blk_alloc ?_ _)); exact BK108.out)) : gb110 ≠ gb108)); have n10_ := Aside0.mk ((by rw [hg]; exact Nat.ne_of_lt (blk_lt (g := gb109) (o := .cells #[.int .i64 a1_0, .int .i64 a1_1, .slice A1_2 l1_2.length c1_2] 27 (0, 0)) (by (with_reducible repeat (first | refine blk_drewN ?_ _ | refine blk_drew ?_ | refine blk_alloc ?_ _)); exact BK109.out)) : gb109 ≠ gb110)); have n11_ := Aside0.mk ((by rw [hg]; exact Nat.ne_of_gt (blk_lt (g := gb109) (o := .cells #[.int .i64 a1_0, .int .i64 a1_1, .slice A1_2 l1_2.length c1_2] 27 (0, 0)) (by (with_reducible repeat (first | refine blk_drewN ?_ _ | refine blk_drew ?_ | refine blk_alloc ?_ _)); exact BK109.out)) : gb110 ≠ gb109)); clear HO0_2; clear HO1_2; clear BK108; clear BK109; clear HB; have HO0_2 := n0_; have HO1_2 := n1_; have BK108 := n2_; have BK109 := n3_; have HB := n4_; have BK110 := n5_; have GW110 := n6_; have GE110 := n7_; have NB108_110 := n8_; have NB110_108 := n9_; have NB109_110 := n10_; have NB110_109 := n11_; clear n0_ n1_ n2_ n3_ n4_ n5_ n6_ n7_ n8_ n9_ n10_ n11_; clear hb hbox hg; have hnb7 := NB108_109.out; have hnc7 := NB109_108.out; have hnb8 := NB108_110.out; have hnc8 := NB110_108.out; have hcz9_0 : w6.cell? ⟨gb108, 0, none⟩ = some (.int .i64 a0_0) := (blk_cell BK108.out 0).trans rfl; have hcz9_1 : w6.cell? ⟨gb108, 1, none⟩ = some (.int .i64 a0_1) := (blk_cell BK108.out 1).trans rfl; have hcz9_2 : w6.cell? ⟨gb108, 2, none⟩ = some (.slice A0_2 l0_2.length c0_2) := (blk_cell BK108.out 2).trans rfl; have hfz9_0 := blk_frozen BK108.out 0; have hfz9_1 := blk_frozen BK108.out 1; have hfz9_2 := blk_frozen BK108.out 2; have hnb10 := NB109_110.out; have hnc10 := NB110_109.out; have hcz11_0 : w6.cell? ⟨gb109, 0, none⟩ = some (.int .i64 a1_0) := (blk_cell BK109.out 0).trans rfl; have hcz11_1 : w6.cell? ⟨gb109, 1, none⟩ = some (.int .i64 a1_1) := (blk_cell BK109.out 1).trans rfl; have hcz11_2 : w6.cell? ⟨gb109, 2, none⟩ = some (.slice A1_2 l1_2.length c1_2) := (blk_cell BK109.out 2).trans rfl; have hfz11_0 := blk_frozen BK109.out 0; have hfz11_1 := blk_frozen BK109.out 1; have hfz11_2 := blk_frozen BK109.out 2) | ((with_reducible refine gate_callee (f := 52) rfl ?_); refine goesL_ (some 7) rfl rfl Try.func52 (by kernel_rfl) rfl #[.int .i64 3, .agg #[.int .i64 a0_0, .int .i64 a0_1, .slice A0_2 l0_2.length c0_2], .agg #[.int .i64 a1_0, .int .i64 a1_1, .slice A1_2 l1_2.length c1_2]] rfl (by (try simp only [List.map_toArray, List.map_cons, List.map_nil]); first | done | rfl | (simp only [List.length_drop, List.length_take]; rfl)) ?_; (with_reducible refine (tenetref24_Two.calls 3 a0_0 a0_1 (fun k_ => (((((P0_2_ k_ ∨ P1_2_ k_) ∨ w.heap.size ≤ k_) ∧ k_ ≠ gb108) ∧ k_ ≠ gb109) ∧ k_ ≠ gb110)) _ _ l0_2 a1_0 a1_1 (fun k_ => (((((P0_2_ k_ ∨ P1_2_ k_) ∨ w.heap.size ≤ k_) ∧ k_ ≠ gb108) ∧ k_ ≠ gb109) ∧ k_ ≠ gb110)) _ _ l1_2 t111 t112 t113 _ ?side1 ?side2 A3.out).mono ?_); (case side1 => exact HO0_2.out); (case side2 => exact HO1_2.out); rintro e w12 ⟨v114, rfl, ho0, hb⟩; refine ⟨_, rfl, ?_⟩; have n0_ := Aside0.mk (Kd.V_elder' (by (with_reducible repeat (first | apply Kd.V_alloc | apply Kd.V_drewN | apply Kd.V_drew)); exact HO0_2.out) (Kd.N_base ho0) hb); have n1_ := Aside0.mk (Kd.V_elder' (by (with_reducible repeat (first | apply Kd.V_alloc | apply Kd.V_drewN | apply Kd.V_drew)); exact HO1_2.out) (Kd.N_base ho0) hb); have n2_ := Aside0.mk (Kd.N_lower (Kd.N_mono (ok' := fun k_ => ((P0_2_ k_ ∨ P1_2_ k_) ∨ w.heap.size ≤ k_) ∧ k_ ≠ gb108 ∧ k_ ≠ gb109 ∧ k_ ≠ gb110) ho0 (fun k_ hk_ => ⟨Or.elim hk_ (fun hs_ => Or.elim hs_ (fun hs_ => hs_.1.1.1) (fun hs_ => hs_.1.1.1)) (fun hn_ => (.inr (Nat.le_trans (below_size (by repeat (first | (with_reducible first | exact HB.out | apply below_alloc | apply pw_below_drewN | apply below_drew1 | refine below_set ?_ GE108.out | refine below_set ?_ GE109.out | refine below_set ?_ GE110.out) | exact HB.out))) hn_))), Or.elim hk_ (fun hs_ => Or.elim hs_ (fun hs_ => hs_.1.1.2) (fun hs_ => hs_.1.1.2)) (fun hn_ => (Kd.freshB (g := gb108) (o := .cells #[.int .i64 a0_0, .int .i64 a0_1, .slice A0_2 l0_2.length c0_2] 27 (0, 0)) (by (with_reducible repeat (first | refine blk_drewN ?_ _ | refine blk_drew ?_ | refine blk_alloc ?_ _)); exact BK108.out) k_ hn_)), Or.elim hk_ (fun hs_ => Or.elim hs_ (fun hs_ => hs_.1.2) (fun hs_ => hs_.1.2)) (fun hn_ => (Kd.freshB (g := gb109) (o := .cells #[.int .i64 a1_0, .int .i64 a1_1, .slice A1_2 l1_2.length c1_2] 27 (0, 0)) (by (with_reducible repeat (first | refine blk_drewN ?_ _ | refine blk_drew ?_ | refine blk_alloc ?_ _)); exact BK109.out) k_ hn_)), Or.elim hk_ (fun hs_ => Or.elim hs_ (fun hs_ => hs_.2) (fun hs_ => hs_.2)) (fun hn_ => (Kd.freshB (g := gb110) (o := .cells #[.int .i64 0, .int .i64 0, .slice none 0 0] 27 (0, 0)) (by (with_reducible repeat (first | refine blk_drewN ?_ _ | refine blk_drew ?_ | refine blk_alloc ?_ _)); exact BK110.out) k_ hn_))⟩)) (below_size (by repeat (first | (with_reducible first | exact HB.out | apply below_alloc | apply pw_below_drewN | apply below_drew1 | refine below_set ?_ GE108.out | refine below_set ?_ GE109.out | refine below_set ?_ GE110.out) | exact HB.out)))); have n3_ := Aside0.mk (blk_below (g := gb108) (o := .cells #[.int .i64 a0_0, .int .i64 a0_1, .slice A0_2 l0_2.length c0_2] 27 (0, 0)) (by (with_reducible repeat (first | refine blk_drewN ?_ _ | refine blk_drew ?_ | refine blk_alloc ?_ _)); exact BK108.out) hb); have n4_ := Aside0.mk (blk_below (g := gb109) (o := .cells #[.int .i64 a1_0, .int .i64 a1_1, .slice A1_2 l1_2.length c1_2] 27 (0, 0)) (by (with_reducible repeat (first | refine blk_drewN ?_ _ | refine blk_drew ?_ | refine blk_alloc ?_ _)); exact BK109.out) hb); have n5_ := Aside0.mk (blk_below (g := gb110) (o := .cells #[.int .i64 0, .int .i64 0, .slice none 0 0] 27 (0, 0)) (by (with_reducible repeat (first | refine blk_drewN ?_ _ | refine blk_drew ?_ | refine blk_alloc ?_ _)); exact BK110.out) hb); have n6_ := Aside0.mk (below_step (by repeat (first | (with_reducible first | exact HB.out | apply below_alloc | apply pw_below_drewN | apply below_drew1 | refine below_set ?_ GE108.out | refine below_set ?_ GE109.out | refine below_set ?_ GE110.out) | exact HB.out)) hb); clear HO0_2; clear HO1_2; clear BK108; clear BK109; clear BK110; clear HB; have HO0_2 := n0_; have HO1_2 := n1_; have HO115 := n2_; have BK108 := n3_; have BK109 := n4_; have BK110 := n5_; have HB := n6_; clear n0_ n1_ n2_ n3_ n4_ n5_ n6_; (try clear hb); (try clear hb2); (try clear hk); (try clear hi); (try clear ho0); have hcz13_0 : w12.cell? ⟨gb110, 0, none⟩ = some (.int .i64 0) := (blk_cell BK110.out 0).trans rfl; have hcz13_1 : w12.cell? ⟨gb110, 1, none⟩ = some (.int .i64 0) := (blk_cell BK110.out 1).trans rfl; have hcz13_2 : w12.cell? ⟨gb110, 2, none⟩ = some (.slice none 0 0) := (blk_cell BK110.out 2).trans rfl; have hfz13_0 := blk_frozen BK110.out 0; have hfz13_1 := blk_frozen BK110.out 1; have hfz13_2 := blk_frozen BK110.out 2; obtain ⟨Ao14, co14, eo14⟩ := Kd.N_slice HO115.out; subst eo14))
 refine bodyPost_ret (results_cell_row rfl _ _ gb110 27 #[.int .i64 t111, .int .i64 t112, .slice Ao14 t113.length co14] (0, 0) _ rfl (by (with_reducible repeat (first | refine blk_drewN ?_ _ | refine blk_drew ?_ | refine blk_alloc ?_ _)); refine blk_put (cs := #[.int .i64 t111, .int .i64 t112, .slice none 0 0]) ?_ 2 _ rfl; (with_reducible repeat (first | refine blk_drewN ?_ _ | refine blk_drew ?_ | refine blk_alloc ?_ _)); refine blk_put (cs := #[.int .i64 t111, .int .i64 0, .slice none 0 0]) ?_ 1 _ rfl; (with_reducible repeat (first | refine blk_drewN ?_ _ | refine blk_drew ?_ | refine blk_alloc ?_ _)); refine blk_put (cs := #[.int .i64 0, .int .i64 0, .slice none 0 0]) ?_ 0 _ rfl; (with_reducible repeat (first | refine blk_drewN ?_ _ | refine blk_drew ?_ | refine blk_alloc ?_ _)); exact BK110.out) Try.underlying27 rfl (by kernel_rfl)) rfl ?_
 exact ⟨_, by first | rfl | (simp [errW_none, errW_some] <;> rfl) | (simp [*, errW_none, errW_some] <;> rfl), by (with_reducible repeat (first | apply Kd.N_alloc | apply Kd.N_drewN | apply Kd.N_drew)); exact Kd.N_mono (Kd.N_far (p := ⟨gb110, 2, none⟩) (Kd.N_far (p := ⟨gb110, 1, none⟩) (Kd.N_far (p := ⟨gb110, 0, none⟩) (Kd.N_mono HO115.out (fun k_ hk => (⟨hk, hk.2.2.2⟩ : _ ∧ k_ ≠ gb110))) (fun _ hk => hk.2) (.int .i64 t111)) (fun _ hk => hk.2) (.int .i64 t112)) (fun _ hk => hk.2) (.slice Ao14 t113.length co14)) (fun _ hk => hk.1.1), by repeat (first | (with_reducible first | exact HB.out | apply below_alloc | apply pw_below_drewN | apply below_drew1 | refine below_set ?_ GE108.out | refine below_set ?_ GE109.out | refine below_set ?_ GE110.out) | exact HB.out)⟩
end Go.Proofs.Ythkclagcbjnckaa.Pa


namespace Go.Proofs.Ythkclagcbjnckaa.Pa
open Go.RowKit Go.Proofs.YthkclagcbjnckaaW.PrintWords Go.Proofs.YthkclagcbjnckaaW.PrintLast Go.Proofs.YthkclagcbjnckaaW.PrintMore
attribute [local go_sem] max2_int min2_int max_two min_two max_three min_three max_four min_four
set_option linter.unusedVariables false
set_option linter.unusedSimpArgs false
def tenetlaw24_mul.f (a0_0 : Int) (a0_1 : Int) (l0_2 : List (S27)) (a1_0 : Int) (a1_1 : Int) (l1_2 : List (S27)) : Option (Int × Int × (List (S27))) := (tenetref24_Two.f 4 a0_0 a0_1 l0_2 a1_0 a1_1 l1_2).bind fun bt119 => (some (bt119.1, bt119.2.1, bt119.2.2))
set_option maxHeartbeats 8000000 in
set_option maxRecDepth 100000 in
theorem tenetlaw24_mul.calls (a0_0 : Int) (a0_1 : Int) (P0_2_ : Nat → Prop) (A0_2 : Option Addr) (c0_2 : Nat) (l0_2 : List (S27)) (a1_0 : Int) (a1_1 : Int) (P1_2_ : Nat → Prop) (A1_2 : Option Addr) (c1_2 : Nat) (l1_2 : List (S27)) (r1 : Int) (r2 : Int) (r3 : List (S27)) (w : World) (hs0_2 : Kd.V k27 27 w w.heap.size (fun k_ => P0_2_ k_) (.slice A0_2 l0_2.length c0_2) l0_2) (hs1_2 : Kd.V k27 27 w w.heap.size (fun k_ => P1_2_ k_) (.slice A1_2 l1_2.length c1_2) l1_2) (h : tenetlaw24_mul.f a0_0 a0_1 l0_2 a1_0 a1_1 l1_2 = some (r1, r2, r3)) :
  Calls Try.prog 40 #[.agg #[.int .i64 a0_0, .int .i64 a0_1, .slice A0_2 l0_2.length c0_2], .agg #[.int .i64 a1_0, .int .i64 a1_1, .slice A1_2 l1_2.length c1_2]] w fun e w' => ∃ v2_ : Value, e = .returned (.agg #[.int .i64 r1, .int .i64 r2, v2_]) ∧ Kd.N k27 27 w' w.heap.size (fun k_ => ((P0_2_ k_ ∨ P1_2_ k_) ∨ w.heap.size ≤ k_)) v2_ r3 ∧ Below w.heap.size w w' := by
 have hu27 := Try.underlying27
 have HO0_2 := Aside0.mk (show Kd.V k27 27 w w.heap.size (fun k_ => ((P0_2_ k_ ∨ P1_2_ k_) ∨ w.heap.size ≤ k_)) (.slice A0_2 l0_2.length c0_2) l0_2 from Kd.V_mono hs0_2 (fun k_ hk => .inl (.inl hk)))
 have HO1_2 := Aside0.mk (show Kd.V k27 27 w w.heap.size (fun k_ => ((P0_2_ k_ ∨ P1_2_ k_) ∨ w.heap.size ≤ k_)) (.slice A1_2 l1_2.length c1_2) l1_2 from Kd.V_mono hs1_2 (fun k_ hk => .inl (.inr hk)))
 have HB := Aside0.mk (Below.refl w.heap.size w)
 have H : ((tenetref24_Two.f 4 a0_0 a0_1 l0_2 a1_0 a1_1 l1_2).bind fun bt119 => (some (bt119.1, bt119.2.1, bt119.2.2))) = some (r1, r2, r3) := h
 clear h
 replace H := Option.bind_eq_some_iff.mp H
 obtain ⟨⟨t119, t120, t121⟩, A30, H⟩ := H
 replace H : (some (t119, t120, t121)) = some (r1, r2, r3) := H
 have A3 := Aside0.mk A30
 clear A30
 simp only [Option.some.injEq, Prod.mk.injEq] at H
 obtain ⟨rfl, rfl, rfl⟩ := H
 go_enter Try.func40, Try.ntmps40
 go_wp2_with (first | ((with_reducible refine gate_dst (N := 2) rfl ?_); refine box_event ?hg (N := 2) ?hd (cs := #[.int .i64 a0_0, .int .i64 a0_1, .slice A0_2 l0_2.length c0_2]) (t := 27) ?hr ?_; (case hd => rfl); (case hg => rfl); (case hr => first | (go_simp; done) | (go_simp; rfl)); intro gb116 hg w4 hbox hb; have n0_ := Aside0.mk (Kd.V_below (Kd.V_elderB (by (with_reducible repeat (first | apply Kd.V_alloc | apply Kd.V_drewN | apply Kd.V_drew)); exact HO0_2.out) gb116 (Nat.le_of_eq hg.symm)) hb); have n1_ := Aside0.mk (Kd.V_below (Kd.V_elderB (by (with_reducible repeat (first | apply Kd.V_alloc | apply Kd.V_drewN | apply Kd.V_drew)); exact HO1_2.out) gb116 (Nat.le_of_eq hg.symm)) hb); have n2_ := Aside0.mk (below_step (by repeat (first | (with_reducible first | exact HB.out | apply below_alloc | apply pw_below_drewN | apply below_drew1) | exact HB.out)) hb); have n3_ := Aside0.mk (hbox); have n4_ := Aside0.mk ((by rw [hg]; exact (below_size (by repeat (first | (with_reducible first | exact HB.out | apply below_alloc | apply pw_below_drewN | apply below_drew1) | exact HB.out))) : w.heap.size ≤ gb116)); have n5_ := Aside0.mk ((by rw [hg]; exact (below_size (by repeat (first | (with_reducible first | exact HB.out | apply below_alloc | apply pw_below_drewN | apply below_drew1) | exact HB.out))) : w.heap.size ≤ gb116)); clear HO0_2; clear HO1_2; clear HB; have HO0_2 := n0_; have HO1_2 := n1_; have HB := n2_; have BK116 := n3_; have GW116 := n4_; have GE116 := n5_; clear n0_ n1_ n2_ n3_ n4_ n5_; clear hb hbox hg) | ((with_reducible refine gate_dst (N := 3) rfl ?_); refine box_event ?hg (N := 3) ?hd (cs := #[.int .i64 a1_0, .int .i64 a1_1, .slice A1_2 l1_2.length c1_2]) (t := 27) ?hr ?_; (case hd => rfl); (case hg => rfl); (case hr => first | (go_simp; done) | (go_simp; rfl)); intro gb117 hg w5 hbox hb; have n0_ := Aside0.mk (Kd.V_below (Kd.V_elderB (by (with_reducible repeat (first | apply Kd.V_alloc | apply Kd.V_drewN | apply Kd.V_drew)); exact HO0_2.out) gb117 (Nat.le_of_eq hg.symm)) hb); have n1_ := Aside0.mk (Kd.V_below (Kd.V_elderB (by (with_reducible repeat (first | apply Kd.V_alloc | apply Kd.V_drewN | apply Kd.V_drew)); exact HO1_2.out) gb117 (Nat.le_of_eq hg.symm)) hb); have n2_ := Aside0.mk (blk_below (g := gb116) (o := .cells #[.int .i64 a0_0, .int .i64 a0_1, .slice A0_2 l0_2.length c0_2] 27 (0, 0)) (by (with_reducible repeat (first | refine blk_drewN ?_ _ | refine blk_drew ?_ | refine blk_alloc ?_ _)); exact BK116.out) hb); have n3_ := Aside0.mk (below_step (by repeat (first | (with_reducible first | exact HB.out | apply below_alloc | apply pw_below_drewN | apply below_drew1 | refine below_set ?_ GE116.out) | exact HB.out)) hb); have n4_ := Aside0.mk (hbox); have n5_ := Aside0.mk ((by rw [hg]; exact (below_size (by repeat (first | (with_reducible first | exact HB.out | apply below_alloc | apply pw_below_drewN | apply below_drew1 | refine below_set ?_ GE116.out) | exact HB.out))) : w.heap.size ≤ gb117)); have n6_ := Aside0.mk ((by rw [hg]; exact (below_size (by repeat (first | (with_reducible first | exact HB.out | apply below_alloc | apply pw_below_drewN | apply below_drew1 | refine below_set ?_ GE116.out) | exact HB.out))) : w.heap.size ≤ gb117)); have n7_ := Aside0.mk ((by rw [hg]; exact Nat.ne_of_lt (blk_lt (g := gb116) (o := .cells #[.int .i64 a0_0, .int .i64 a0_1, .slice A0_2 l0_2.length c0_2] 27 (0, 0)) (by (with_reducible repeat (first | refine blk_drewN ?_ _ | refine blk_drew ?_ | refine blk_alloc ?_ _)); exact BK116.out)) : gb116 ≠ gb117)); have n8_ := Aside0.mk ((by rw [hg]; exact Nat.ne_of_gt (blk_lt (g := gb116) (o := .cells #[.int .i64 a0_0, .int .i64 a0_1, .slice A0_2 l0_2.length c0_2] 27 (0, 0)) (by (with_reducible repeat (first | refine blk_drewN ?_ _ | refine blk_drew ?_ | refine blk_alloc ?_ _)); exact BK116.out)) : gb117 ≠ gb116)); clear HO0_2; clear HO1_2; clear BK116; clear HB; have HO0_2 := n0_; have HO1_2 := n1_; have BK116 := n2_; have HB := n3_; have BK117 := n4_; have GW117 := n5_; have GE117 := n6_; have NB116_117 := n7_; have NB117_116 := n8_; clear n0_ n1_ n2_ n3_ n4_ n5_ n6_ n7_ n8_; clear hb hbox hg) | ((with_reducible refine gate_dst (N := 4) rfl ?_); refine box_event ?hg (N := 4) ?hd (cs := #[.int .i64 0, .int .i64 0, .slice none 0 0]) (t := 27) ?hr ?_; (case hd => rfl); (case hg => rfl); (case hr => first | (go_simp; done) | (go_simp; rfl)); intro gb118 hg w6 hbox hb; have n0_ := Aside0.mk (Kd.V_below (Kd.V_elderB (by (with_reducible repeat (first | apply Kd.V_alloc | apply Kd.V_drewN | apply Kd.V_drew)); exact HO0_2.out) gb118 (Nat.le_of_eq hg.symm)) hb); have n1_ := Aside0.mk (Kd.V_below (Kd.V_elderB (by (with_reducible repeat (first | apply Kd.V_alloc | apply Kd.V_drewN | apply Kd.V_drew)); exact HO1_2.out) gb118 (Nat.le_of_eq hg.symm)) hb); have n2_ := Aside0.mk (blk_below (g := gb116) (o := .cells #[.int .i64 a0_0, .int .i64 a0_1, .slice A0_2 l0_2.length c0_2] 27 (0, 0)) (by (with_reducible repeat (first | refine blk_drewN ?_ _ | refine blk_drew ?_ | refine blk_alloc ?_ _)); exact BK116.out) hb); have n3_ := Aside0.mk (blk_below (g := gb117) (o := .cells #[.int .i64 a1_0, .int .i64 a1_1, .slice A1_2 l1_2.length c1_2] 27 (0, 0)) (by (with_reducible repeat (first | refine blk_drewN ?_ _ | refine blk_drew ?_ | refine blk_alloc ?_ _)); exact BK117.out) hb); have n4_ := Aside0.mk (below_step (by repeat (first | (with_reducible first | exact HB.out | apply below_alloc | apply pw_below_drewN | apply below_drew1 | refine below_set ?_ GE116.out | refine below_set ?_ GE117.out) | exact HB.out)) hb); have n5_ := Aside0.mk (hbox); have n6_ := Aside0.mk ((by rw [hg]; exact (below_size (by repeat (first | (with_reducible first | exact HB.out | apply below_alloc | apply pw_below_drewN | apply below_drew1 | refine below_set ?_ GE116.out | refine below_set ?_ GE117.out) | exact HB.out))) : w.heap.size ≤ gb118)); have n7_ := Aside0.mk ((by rw [hg]; exact (below_size (by repeat (first | (with_reducible first | exact HB.out | apply below_alloc | apply pw_below_drewN | apply below_drew1 | refine below_set ?_ GE116.out | refine below_set ?_ GE117.out) | exact HB.out))) : w.heap.size ≤ gb118)); have n8_ := Aside0.mk ((by rw [hg]; exact Nat.ne_of_lt (blk_lt (g := gb116) (o := .cells #[.int .i64 a0_0, .int .i64 a0_1, .slice A0_2 l0_2.length c0_2] 27 (0, 0)) (by (with_reducible repeat (first | refine blk_drewN ?_ _ | refine blk_drew ?_ | refine blk_alloc ?_ _)); exact BK116.out)) : gb116 ≠ gb118)); have n9_ := Aside0.mk ((by rw [hg]; exact Nat.ne_of_gt (blk_lt (g := gb116) (o := .cells #[.int .i64 a0_0, .int .i64 a0_1, .slice A0_2 l0_2.length c0_2] 27 (0, 0)) (by (with_reducible repeat (first | refine blk_drewN ?_ _ | refine blk_drew ?_ | refine blk_alloc ?_ _)); exact BK116.out)) : gb118 ≠ gb116)); have n10_ := Aside0.mk ((by rw [hg]; exact Nat.ne_of_lt (blk_lt (g := gb117) (o := .cells #[.int .i64 a1_0, .int .i64 a1_1, .slice A1_2 l1_2.length c1_2] 27 (0, 0)) (by (with_reducible repeat (first | refine blk_drewN ?_ _ | refine blk_drew ?_ | refine blk_alloc ?_ _)); exact BK117.out)) : gb117 ≠ gb118)); have n11_ := Aside0.mk ((by rw [hg]; exact Nat.ne_of_gt (blk_lt (g := gb117) (o := .cells #[.int .i64 a1_0, .int .i64 a1_1, .slice A1_2 l1_2.length c1_2] 27 (0, 0)) (by (with_reducible repeat (first | refine blk_drewN ?_ _ | refine blk_drew ?_ | refine blk_alloc ?_ _)); exact BK117.out)) : gb118 ≠ gb117)); clear HO0_2; clear HO1_2; clear BK116; clear BK117; clear HB; have HO0_2 := n0_; have HO1_2 := n1_; have BK116 := n2_; have BK117 := n3_; have HB := n4_; have BK118 := n5_; have GW118 := n6_; have GE118 := n7_; have NB116_118 := n8_; have NB118_116 := n9_; have NB117_118 := n10_; have NB118_117 := n11_; clear n0_ n1_ n2_ n3_ n4_ n5_ n6_ n7_ n8_ n9_ n10_ n11_; clear hb hbox hg; have hnb7 := NB116_117.out; have hnc7 := NB117_116.out; have hnb8 := NB116_118.out; have hnc8 := NB118_116.out; have hcz9_0 : w6.cell? ⟨gb116, 0, none⟩ = some (.int .i64 a0_0) := (blk_cell BK116.out 0).trans rfl; have hcz9_1 : w6.cell? ⟨gb116, 1, none⟩ = some (.int .i64 a0_1) := (blk_cell BK116.out 1).trans rfl; have hcz9_2 : w6.cell? ⟨gb116, 2, none⟩ = some (.slice A0_2 l0_2.length c0_2) := (blk_cell BK116.out 2).trans rfl; have hfz9_0 := blk_frozen BK116.out 0; have hfz9_1 := blk_frozen BK116.out 1; have hfz9_2 := blk_frozen BK116.out 2; have hnb10 := NB117_118.out; have hnc10 := NB118_117.out; have hcz11_0 : w6.cell? ⟨gb117, 0, none⟩ = some (.int .i64 a1_0) := (blk_cell BK117.out 0).trans rfl; have hcz11_1 : w6.cell? ⟨gb117, 1, none⟩ = some (.int .i64 a1_1) := (blk_cell BK117.out 1).trans rfl; have hcz11_2 : w6.cell? ⟨gb117, 2, none⟩ = some (.slice A1_2 l1_2.length c1_2) := (blk_cell BK117.out 2).trans rfl; have hfz11_0 := blk_frozen BK117.out 0; have hfz11_1 := blk_frozen BK117.out 1; have hfz11_2 := blk_frozen BK117.out 2) | ((with_reducible refine gate_callee (f := 52) rfl ?_); refine goesL_ (some 7) rfl rfl Try.func52 (by kernel_rfl) rfl #[.int .i64 4, .agg #[.int .i64 a0_0, .int .i64 a0_1, .slice A0_2 l0_2.length c0_2], .agg #[.int .i64 a1_0, .int .i64 a1_1, .slice A1_2 l1_2.length c1_2]] rfl (by (try simp only [List.map_toArray, List.map_cons, List.map_nil]); first | done | rfl | (simp only [List.length_drop, List.length_take]; rfl)) ?_; (with_reducible refine (tenetref24_Two.calls 4 a0_0 a0_1 (fun k_ => (((((P0_2_ k_ ∨ P1_2_ k_) ∨ w.heap.size ≤ k_) ∧ k_ ≠ gb116) ∧ k_ ≠ gb117) ∧ k_ ≠ gb118)) _ _ l0_2 a1_0 a1_1 (fun k_ => (((((P0_2_ k_ ∨ P1_2_ k_) ∨ w.heap.size ≤ k_) ∧ k_ ≠ gb116) ∧ k_ ≠ gb117) ∧ k_ ≠ gb118)) _ _ l1_2 t119 t120 t121 _ ?side1 ?side2 A3.out).mono ?_); (case side1 => exact HO0_2.out); (case side2 => exact HO1_2.out); rintro e w12 ⟨v122, rfl, ho0, hb⟩; refine ⟨_, rfl, ?_⟩; have n0_ := Aside0.mk (Kd.V_elder' (by (with_reducible repeat (first | apply Kd.V_alloc | apply Kd.V_drewN | apply Kd.V_drew)); exact HO0_2.out) (Kd.N_base ho0) hb); have n1_ := Aside0.mk (Kd.V_elder' (by (with_reducible repeat (first | apply Kd.V_alloc | apply Kd.V_drewN | apply Kd.V_drew)); exact HO1_2.out) (Kd.N_base ho0) hb); have n2_ := Aside0.mk (Kd.N_lower (Kd.N_mono (ok' := fun k_ => ((P0_2_ k_ ∨ P1_2_ k_) ∨ w.heap.size ≤ k_) ∧ k_ ≠ gb116 ∧ k_ ≠ gb117 ∧ k_ ≠ gb118) ho0 (fun k_ hk_ => ⟨Or.elim hk_ (fun hs_ => Or.elim hs_ (fun hs_ => hs_.1.1.1) (fun hs_ => hs_.1.1.1)) (fun hn_ => (.inr (Nat.le_trans (below_size (by repeat (first | (with_reducible first | exact HB.out | apply below_alloc | apply pw_below_drewN | apply below_drew1 | refine below_set ?_ GE116.out | refine below_set ?_ GE117.out | refine below_set ?_ GE118.out) | exact HB.out))) hn_))), Or.elim hk_ (fun hs_ => Or.elim hs_ (fun hs_ => hs_.1.1.2) (fun hs_ => hs_.1.1.2)) (fun hn_ => (Kd.freshB (g := gb116) (o := .cells #[.int .i64 a0_0, .int .i64 a0_1, .slice A0_2 l0_2.length c0_2] 27 (0, 0)) (by (with_reducible repeat (first | refine blk_drewN ?_ _ | refine blk_drew ?_ | refine blk_alloc ?_ _)); exact BK116.out) k_ hn_)), Or.elim hk_ (fun hs_ => Or.elim hs_ (fun hs_ => hs_.1.2) (fun hs_ => hs_.1.2)) (fun hn_ => (Kd.freshB (g := gb117) (o := .cells #[.int .i64 a1_0, .int .i64 a1_1, .slice A1_2 l1_2.length c1_2] 27 (0, 0)) (by (with_reducible repeat (first | refine blk_drewN ?_ _ | refine blk_drew ?_ | refine blk_alloc ?_ _)); exact BK117.out) k_ hn_)), Or.elim hk_ (fun hs_ => Or.elim hs_ (fun hs_ => hs_.2) (fun hs_ => hs_.2)) (fun hn_ => (Kd.freshB (g := gb118) (o := .cells #[.int .i64 0, .int .i64 0, .slice none 0 0] 27 (0, 0)) (by (with_reducible repeat (first | refine blk_drewN ?_ _ | refine blk_drew ?_ | refine blk_alloc ?_ _)); exact BK118.out) k_ hn_))⟩)) (below_size (by repeat (first | (with_reducible first | exact HB.out | apply below_alloc | apply pw_below_drewN | apply below_drew1 | refine below_set ?_ GE116.out | refine below_set ?_ GE117.out | refine below_set ?_ GE118.out) | exact HB.out)))); have n3_ := Aside0.mk (blk_below (g := gb116) (o := .cells #[.int .i64 a0_0, .int .i64 a0_1, .slice A0_2 l0_2.length c0_2] 27 (0, 0)) (by (with_reducible repeat (first | refine blk_drewN ?_ _ | refine blk_drew ?_ | refine blk_alloc ?_ _)); exact BK116.out) hb); have n4_ := Aside0.mk (blk_below (g := gb117) (o := .cells #[.int .i64 a1_0, .int .i64 a1_1, .slice A1_2 l1_2.length c1_2] 27 (0, 0)) (by (with_reducible repeat (first | refine blk_drewN ?_ _ | refine blk_drew ?_ | refine blk_alloc ?_ _)); exact BK117.out) hb); have n5_ := Aside0.mk (blk_below (g := gb118) (o := .cells #[.int .i64 0, .int .i64 0, .slice none 0 0] 27 (0, 0)) (by (with_reducible repeat (first | refine blk_drewN ?_ _ | refine blk_drew ?_ | refine blk_alloc ?_ _)); exact BK118.out) hb); have n6_ := Aside0.mk (below_step (by repeat (first | (with_reducible first | exact HB.out | apply below_alloc | apply pw_below_drewN | apply below_drew1 | refine below_set ?_ GE116.out | refine below_set ?_ GE117.out | refine below_set ?_ GE118.out) | exact HB.out)) hb); clear HO0_2; clear HO1_2; clear BK116; clear BK117; clear BK118; clear HB; have HO0_2 := n0_; have HO1_2 := n1_; have HO123 := n2_; have BK116 := n3_; have BK117 := n4_; have BK118 := n5_; have HB := n6_; clear n0_ n1_ n2_ n3_ n4_ n5_ n6_; (try clear hb); (try clear hb2); (try clear hk); (try clear hi); (try clear ho0); have hcz13_0 : w12.cell? ⟨gb118, 0, none⟩ = some (.int .i64 0) := (blk_cell BK118.out 0).trans rfl; have hcz13_1 : w12.cell? ⟨gb118, 1, none⟩ = some (.int .i64 0) := (blk_cell BK118.out 1).trans rfl; have hcz13_2 : w12.cell? ⟨gb118, 2, none⟩ = some (.slice none 0 0) := (blk_cell BK118.out 2).trans rfl; have hfz13_0 := blk_frozen BK118.out 0; have hfz13_1 := blk_frozen BK118.out 1; have hfz13_2 := blk_frozen BK118.out 2; obtain ⟨Ao14, co14, eo14⟩ := Kd.N_slice HO123.out; subst eo14))
 refine bodyPost_ret (results_cell_row rfl _ _ gb118 27 #[.int .i64 t119, .int .i64 t120, .slice Ao14 t121.length co14] (0, 0) _ rfl (by (with_reducible repeat (first | refine blk_drewN ?_ _ | refine blk_drew ?_ | refine blk_alloc ?_ _)); refine blk_put (cs := #[.int .i64 t119, .int .i64 t120, .slice none 0 0]) ?_ 2 _ rfl; (with_reducible repeat (first | refine blk_drewN ?_ _ | refine blk_drew ?_ | refine blk_alloc ?_ _)); refine blk_put (cs := #[.int .i64 t119, .int .i64 0, .slice none 0 0]) ?_ 1 _ rfl; (with_reducible repeat (first | refine blk_drewN ?_ _ | refine blk_drew ?_ | refine blk_alloc ?_ _)); refine blk_put (cs := #[.int .i64 0, .int .i64 0, .slice none 0 0]) ?_ 0 _ rfl; (with_reducible repeat (first | refine blk_drewN ?_ _ | refine blk_drew ?_ | refine blk_alloc ?_ _)); exact BK118.out) Try.underlying27 rfl (by kernel_rfl)) rfl ?_
 exact ⟨_, by first | rfl | (simp [errW_none, errW_some] <;> rfl) | (simp [*, errW_none, errW_some] <;> rfl), by (with_reducible repeat (first | apply Kd.N_alloc | apply Kd.N_drewN | apply Kd.N_drew)); exact Kd.N_mono (Kd.N_far (p := ⟨gb118, 2, none⟩) (Kd.N_far (p := ⟨gb118, 1, none⟩) (Kd.N_far (p := ⟨gb118, 0, none⟩) (Kd.N_mono HO123.out (fun k_ hk => (⟨hk, hk.2.2.2⟩ : _ ∧ k_ ≠ gb118))) (fun _ hk => hk.2) (.int .i64 t119)) (fun _ hk => hk.2) (.int .i64 t120)) (fun _ hk => hk.2) (.slice Ao14 t121.length co14)) (fun _ hk => hk.1.1), by repeat (first | (with_reducible first | exact HB.out | apply below_alloc | apply pw_below_drewN | apply below_drew1 | refine below_set ?_ GE116.out | refine below_set ?_ GE117.out | refine below_set ?_ GE118.out) | exact HB.out)⟩
end Go.Proofs.Ythkclagcbjnckaa.Pa


namespace Go.Proofs.Ythkclagcbjnckaa.Pa
open Go.RowKit Go.Proofs.YthkclagcbjnckaaW.PrintWords Go.Proofs.YthkclagcbjnckaaW.PrintLast Go.Proofs.YthkclagcbjnckaaW.PrintMore
attribute [local go_sem] max2_int min2_int max_two min_two max_three min_three max_four min_four
set_option linter.unusedVariables false
set_option linter.unusedSimpArgs false
def tenetlaw24_v.f (a0 : Int) : Option (Int × Int × (List (S27))) := some (2, a0, ([] : List (S27)))
set_option maxHeartbeats 8000000 in
set_option maxRecDepth 100000 in
theorem tenetlaw24_v.calls (a0 : Int) (r1 : Int) (r2 : Int) (r3 : List (S27)) (w : World) (h : tenetlaw24_v.f a0 = some (r1, r2, r3)) :
  Calls Try.prog 42 #[.int .i64 a0] w fun e w' => ∃ v2_ : Value, e = .returned (.agg #[.int .i64 r1, .int .i64 r2, v2_]) ∧ Kd.R k27 27 w' w.heap.size (fun _ => True) v2_ r3 ∧ Below w.heap.size w w' := by
 have hu27 := Try.underlying27
 have HB := Aside0.mk (Below.refl w.heap.size w)
 have H : (some (2, a0, ([] : List (S27)))) = some (r1, r2, r3) := h
 clear h
 simp only [Option.some.injEq, Prod.mk.injEq] at H
 obtain ⟨rfl, rfl, rfl⟩ := H
 go_enter Try.func42, Try.ntmps42
 go_wp2_with (first | ((with_reducible refine gate_dst (N := 2) rfl ?_); refine box_event ?hg (N := 2) ?hd (cs := #[.int .i64 0, .int .i64 0, .slice none 0 0]) (t := 27) ?hr ?_; (case hd => rfl); (case hg => rfl); (case hr => first | (go_simp; done) | (go_simp; rfl)); intro gb124 hg w2 hbox hb; have n0_ := Aside0.mk (below_step (by repeat (first | (with_reducible first | exact HB.out | apply below_alloc | apply pw_below_drewN | apply below_drew1) | exact HB.out)) hb); have n1_ := Aside0.mk (hbox); have n2_ := Aside0.mk ((by rw [hg]; exact (below_size (by repeat (first | (with_reducible first | exact HB.out | apply below_alloc | apply pw_below_drewN | apply below_drew1) | exact HB.out))) : w.heap.size ≤ gb124)); have n3_ := Aside0.mk ((by rw [hg]; exact (below_size (by repeat (first | (with_reducible first | exact HB.out | apply below_alloc | apply pw_below_drewN | apply below_drew1) | exact HB.out))) : w.heap.size ≤ gb124)); clear HB; have HB := n0_; have BK124 := n1_; have GW124 := n2_; have GE124 := n3_; clear n0_ n1_ n2_ n3_; clear hb hbox hg; have hcz3_0 : w2.cell? ⟨gb124, 0, none⟩ = some (.int .i64 0) := (blk_cell BK124.out 0).trans rfl; have hcz3_1 : w2.cell? ⟨gb124, 1, none⟩ = some (.int .i64 0) := (blk_cell BK124.out 1).trans rfl; have hcz3_2 : w2.cell? ⟨gb124, 2, none⟩ = some (.slice none 0 0) := (blk_cell BK124.out 2).trans rfl; have hfz3_0 := blk_frozen BK124.out 0; have hfz3_1 := blk_frozen BK124.out 1; have hfz3_2 := blk_frozen BK124.out 2))
 refine bodyPost_ret (results_cell_row rfl _ _ gb124 27 #[.int .i64 2, .int .i64 a0, .slice none 0 0] (0, 0) _ rfl (by (with_reducible repeat (first | refine blk_drewN ?_ _ | refine blk_drew ?_ | refine blk_alloc ?_ _)); refine blk_put (cs := #[.int .i64 2, .int .i64 a0, .slice none 0 0]) ?_ 2 _ rfl; (with_reducible repeat (first | refine blk_drewN ?_ _ | refine blk_drew ?_ | refine blk_alloc ?_ _)); refine blk_put (cs := #[.int .i64 2, .int .i64 0, .slice none 0 0]) ?_ 1 _ rfl; (with_reducible repeat (first | refine blk_drewN ?_ _ | refine blk_drew ?_ | refine blk_alloc ?_ _)); refine blk_put (cs := #[.int .i64 0, .int .i64 0, .slice none 0 0]) ?_ 0 _ rfl; (with_reducible repeat (first | refine blk_drewN ?_ _ | refine blk_drew ?_ | refine blk_alloc ?_ _)); exact BK124.out) Try.underlying27 rfl (by kernel_rfl)) rfl ?_
 exact ⟨_, by first | rfl | (simp [errW_none, errW_some] <;> rfl) | (simp [*, errW_none, errW_some] <;> rfl), by first | exact Kd.R_nil _ _ _ _ _ | exact Kd.N_nil _ _ _ _ _ | exact Kd.V_nil _ _ _ _ _ | exact Kd.Q_nil _ _ _ _ _ | exact Kd.S_nil _ _ _ _ _, by repeat (first | (with_reducible first | exact HB.out | apply below_alloc | apply pw_below_drewN | apply below_drew1 | refine below_set ?_ GE124.out) | exact HB.out)⟩
end Go.Proofs.Ythkclagcbjnckaa.Pa


namespace Go.Proofs.Ythkclagcbjnckaa.Pa
open Go.RowKit Go.Proofs.YthkclagcbjnckaaW.PrintWords Go.Proofs.YthkclagcbjnckaaW.PrintLast Go.Proofs.YthkclagcbjnckaaW.PrintMore
attribute [local go_sem] max2_int min2_int max_two min_two max_three min_three max_four min_four
set_option linter.unusedVariables false
set_option linter.unusedSimpArgs false
def tenetref24_Num.f (a0 : Int) : Option (Int × Int × (List (S27))) := some (1, a0, ([] : List (S27)))
set_option maxHeartbeats 8000000 in
set_option maxRecDepth 100000 in
theorem tenetref24_Num.calls (a0 : Int) (r1 : Int) (r2 : Int) (r3 : List (S27)) (w : World) (h : tenetref24_Num.f a0 = some (r1, r2, r3)) :
  Calls Try.prog 50 #[.int .i64 a0] w fun e w' => ∃ v2_ : Value, e = .returned (.agg #[.int .i64 r1, .int .i64 r2, v2_]) ∧ Kd.R k27 27 w' w.heap.size (fun _ => True) v2_ r3 ∧ Below w.heap.size w w' := by
 have hu27 := Try.underlying27
 have HB := Aside0.mk (Below.refl w.heap.size w)
 have H : (some (1, a0, ([] : List (S27)))) = some (r1, r2, r3) := h
 clear h
 simp only [Option.some.injEq, Prod.mk.injEq] at H
 obtain ⟨rfl, rfl, rfl⟩ := H
 go_enter Try.func50, Try.ntmps50
 go_wp2_with (first | ((with_reducible refine gate_dst (N := 2) rfl ?_); refine box_event ?hg (N := 2) ?hd (cs := #[.int .i64 0, .int .i64 0, .slice none 0 0]) (t := 27) ?hr ?_; (case hd => rfl); (case hg => rfl); (case hr => first | (go_simp; done) | (go_simp; rfl)); intro gb125 hg w2 hbox hb; have n0_ := Aside0.mk (below_step (by repeat (first | (with_reducible first | exact HB.out | apply below_alloc | apply pw_below_drewN | apply below_drew1) | exact HB.out)) hb); have n1_ := Aside0.mk (hbox); have n2_ := Aside0.mk ((by rw [hg]; exact (below_size (by repeat (first | (with_reducible first | exact HB.out | apply below_alloc | apply pw_below_drewN | apply below_drew1) | exact HB.out))) : w.heap.size ≤ gb125)); have n3_ := Aside0.mk ((by rw [hg]; exact (below_size (by repeat (first | (with_reducible first | exact HB.out | apply below_alloc | apply pw_below_drewN | apply below_drew1) | exact HB.out))) : w.heap.size ≤ gb125)); clear HB; have HB := n0_; have BK125 := n1_; have GW125 := n2_; have GE125 := n3_; clear n0_ n1_ n2_ n3_; clear hb hbox hg; have hcz3_0 : w2.cell? ⟨gb125, 0, none⟩ = some (.int .i64 0) := (blk_cell BK125.out 0).trans rfl; have hcz3_1 : w2.cell? ⟨gb125, 1, none⟩ = some (.int .i64 0) := (blk_cell BK125.out 1).trans rfl; have hcz3_2 : w2.cell? ⟨gb125, 2, none⟩ = some (.slice none 0 0) := (blk_cell BK125.out 2).trans rfl; have hfz3_0 := blk_frozen BK125.out 0; have hfz3_1 := blk_frozen BK125.out 1; have hfz3_2 := blk_frozen BK125.out 2))
 refine bodyPost_ret (results_cell_row rfl _ _ gb125 27 #[.int .i64 1, .int .i64 a0, .slice none 0 0] (0, 0) _ rfl (by (with_reducible repeat (first | refine blk_drewN ?_ _ | refine blk_drew ?_ | refine blk_alloc ?_ _)); refine blk_put (cs := #[.int .i64 1, .int .i64 a0, .slice none 0 0]) ?_ 2 _ rfl; (with_reducible repeat (first | refine blk_drewN ?_ _ | refine blk_drew ?_ | refine blk_alloc ?_ _)); refine blk_put (cs := #[.int .i64 1, .int .i64 0, .slice none 0 0]) ?_ 1 _ rfl; (with_reducible repeat (first | refine blk_drewN ?_ _ | refine blk_drew ?_ | refine blk_alloc ?_ _)); refine blk_put (cs := #[.int .i64 0, .int .i64 0, .slice none 0 0]) ?_ 0 _ rfl; (with_reducible repeat (first | refine blk_drewN ?_ _ | refine blk_drew ?_ | refine blk_alloc ?_ _)); exact BK125.out) Try.underlying27 rfl (by kernel_rfl)) rfl ?_
 exact ⟨_, by first | rfl | (simp [errW_none, errW_some] <;> rfl) | (simp [*, errW_none, errW_some] <;> rfl), by first | exact Kd.R_nil _ _ _ _ _ | exact Kd.N_nil _ _ _ _ _ | exact Kd.V_nil _ _ _ _ _ | exact Kd.Q_nil _ _ _ _ _ | exact Kd.S_nil _ _ _ _ _, by repeat (first | (with_reducible first | exact HB.out | apply below_alloc | apply pw_below_drewN | apply below_drew1 | refine below_set ?_ GE125.out) | exact HB.out)⟩
end Go.Proofs.Ythkclagcbjnckaa.Pa


namespace Go.Proofs.Ythkclagcbjnckaa.Pa
open Go.RowKit Go.Proofs.YthkclagcbjnckaaW.PrintWords Go.Proofs.YthkclagcbjnckaaW.PrintLast Go.Proofs.YthkclagcbjnckaaW.PrintMore
attribute [local go_sem] max2_int min2_int max_two min_two max_three min_three max_four min_four
set_option linter.unusedVariables false
set_option linter.unusedSimpArgs false
def tenetlaw24_num.f (a0 : Int) : Option (Int × Int × (List (S27))) := (tenetref24_Num.f a0).bind fun bt127 => (some (bt127.1, bt127.2.1, bt127.2.2))
set_option maxHeartbeats 8000000 in
set_option maxRecDepth 100000 in
theorem tenetlaw24_num.calls (a0 : Int) (r1 : Int) (r2 : Int) (r3 : List (S27)) (w : World) (h : tenetlaw24_num.f a0 = some (r1, r2, r3)) :
  Calls Try.prog 43 #[.int .i64 a0] w fun e w' => ∃ v2_ : Value, e = .returned (.agg #[.int .i64 r1, .int .i64 r2, v2_]) ∧ Kd.R k27 27 w' w.heap.size (fun _ => True) v2_ r3 ∧ Below w.heap.size w w' := by
 have hu27 := Try.underlying27
 have HB := Aside0.mk (Below.refl w.heap.size w)
 have H : ((tenetref24_Num.f a0).bind fun bt127 => (some (bt127.1, bt127.2.1, bt127.2.2))) = some (r1, r2, r3) := h
 clear h
 replace H := Option.bind_eq_some_iff.mp H
 obtain ⟨⟨t127, t128, t129⟩, A20, H⟩ := H
 replace H : (some (t127, t128, t129)) = some (r1, r2, r3) := H
 have A2 := Aside0.mk A20
 clear A20
 simp only [Option.some.injEq, Prod.mk.injEq] at H
 obtain ⟨rfl, rfl, rfl⟩ := H
 go_enter Try.func43, Try.ntmps43
 go_wp2_with (first | ((with_reducible refine gate_dst (N := 2) rfl ?_); refine box_event ?hg (N := 2) ?hd (cs := #[.int .i64 0, .int .i64 0, .slice none 0 0]) (t := 27) ?hr ?_; (case hd => rfl); (case hg => rfl); (case hr => first | (go_simp; done) | (go_simp; rfl)); intro gb126 hg w3 hbox hb; have n0_ := Aside0.mk (below_step (by repeat (first | (with_reducible first | exact HB.out | apply below_alloc | apply pw_below_drewN | apply below_drew1) | exact HB.out)) hb); have n1_ := Aside0.mk (hbox); have n2_ := Aside0.mk ((by rw [hg]; exact (below_size (by repeat (first | (with_reducible first | exact HB.out | apply below_alloc | apply pw_below_drewN | apply below_drew1) | exact HB.out))) : w.heap.size ≤ gb126)); have n3_ := Aside0.mk ((by rw [hg]; exact (below_size (by repeat (first | (with_reducible first | exact HB.out | apply below_alloc | apply pw_below_drewN | apply below_drew1) | exact HB.out))) : w.heap.size ≤ gb126)); clear HB; have HB := n0_; have BK126 := n1_; have GW126 := n2_; have GE126 := n3_; clear n0_ n1_ n2_ n3_; clear hb hbox hg) | ((with_reducible refine gate_callee (f := 50) rfl ?_); refine goesL_ (some 4) rfl rfl Try.func50 (by kernel_rfl) rfl #[.int .i64 a0] rfl (by (try simp only [List.map_toArray, List.map_cons, List.map_nil]); first | done | rfl | (simp only [List.length_drop, List.length_take]; rfl)) ?_; (with_reducible refine (tenetref24_Num.calls a0 t127 t128 t129 _ A2.out).mono ?_); rintro e w4 ⟨v130, rfl, ho0, hb⟩; refine ⟨_, rfl, ?_⟩; have n0_ := Aside0.mk (Kd.R_lower (Kd.R_newB ho0 (g := gb126) (o := .cells #[.int .i64 0, .int .i64 0, .slice none 0 0] 27 (0, 0)) (by (with_reducible repeat (first | refine blk_drewN ?_ _ | refine blk_drew ?_ | refine blk_alloc ?_ _)); exact BK126.out)) (below_size (by repeat (first | (with_reducible first | exact HB.out | apply below_alloc | apply pw_below_drewN | apply below_drew1 | refine below_set ?_ GE126.out) | exact HB.out)))); have n1_ := Aside0.mk (blk_below (g := gb126) (o := .cells #[.int .i64 0, .int .i64 0, .slice none 0 0] 27 (0, 0)) (by (with_reducible repeat (first | refine blk_drewN ?_ _ | refine blk_drew ?_ | refine blk_alloc ?_ _)); exact BK126.out) hb); have n2_ := Aside0.mk (below_step (by repeat (first | (with_reducible first | exact HB.out | apply below_alloc | apply pw_below_drewN | apply below_drew1 | refine below_set ?_ GE126.out) | exact HB.out)) hb); clear BK126; clear HB; have HO131 := n0_; have BK126 := n1_; have HB := n2_; clear n0_ n1_ n2_; (try clear hb); (try clear hb2); (try clear hk); (try clear hi); (try clear ho0); have hcz5_0 : w4.cell? ⟨gb126, 0, none⟩ = some (.int .i64 0) := (blk_cell BK126.out 0).trans rfl; have hcz5_1 : w4.cell? ⟨gb126, 1, none⟩ = some (.int .i64 0) := (blk_cell BK126.out 1).trans rfl; have hcz5_2 : w4.cell? ⟨gb126, 2, none⟩ = some (.slice none 0 0) := (blk_cell BK126.out 2).trans rfl; have hfz5_0 := blk_frozen BK126.out 0; have hfz5_1 := blk_frozen BK126.out 1; have hfz5_2 := blk_frozen BK126.out 2; obtain ⟨Ao6, co6, eo6⟩ := Kd.R_slice HO131.out; subst eo6))
 refine bodyPost_ret (results_cell_row rfl _ _ gb126 27 #[.int .i64 t127, .int .i64 t128, .slice Ao6 t129.length co6] (0, 0) _ rfl (by (with_reducible repeat (first | refine blk_drewN ?_ _ | refine blk_drew ?_ | refine blk_alloc ?_ _)); refine blk_put (cs := #[.int .i64 t127, .int .i64 t128, .slice none 0 0]) ?_ 2 _ rfl; (with_reducible repeat (first | refine blk_drewN ?_ _ | refine blk_drew ?_ | refine blk_alloc ?_ _)); refine blk_put (cs := #[.int .i64 t127, .int .i64 0, .slice none 0 0]) ?_ 1 _ rfl; (with_reducible repeat (first | refine blk_drewN ?_ _ | refine blk_drew ?_ | refine blk_alloc ?_ _)); refine blk_put (cs := #[.int .i64 0, .int .i64 0, .slice none 0 0]) ?_ 0 _ rfl; (with_reducible repeat (first | refine blk_drewN ?_ _ | refine blk_drew ?_ | refine blk_alloc ?_ _)); exact BK126.out) Try.underlying27 rfl (by kernel_rfl)) rfl ?_
 exact ⟨_, by first | rfl | (simp [errW_none, errW_some] <;> rfl) | (simp [*, errW_none, errW_some] <;> rfl), by (with_reducible repeat (first | apply Kd.R_alloc | apply Kd.R_drewN | apply Kd.R_drew)); exact Kd.R_mono (Kd.R_far (p := ⟨gb126, 2, none⟩) (Kd.R_far (p := ⟨gb126, 1, none⟩) (Kd.R_far (p := ⟨gb126, 0, none⟩) (Kd.R_mono HO131.out (fun k_ hk => (⟨hk, hk.2⟩ : _ ∧ k_ ≠ gb126))) (fun _ hk => hk.2) (.int .i64 t127)) (fun _ hk => hk.2) (.int .i64 t128)) (fun _ hk => hk.2) (.slice Ao6 t129.length co6)) (fun _ hk => trivial), by repeat (first | (with_reducible first | exact HB.out | apply below_alloc | apply pw_below_drewN | apply below_drew1 | refine below_set ?_ GE126.out) | exact HB.out)⟩
end Go.Proofs.Ythkclagcbjnckaa.Pa

namespace Go.Proofs.Ythkclagcbjnckaa.Pa
open Go.RowKit Go.Proofs.RawMap Go.Proofs.YthkclagcbjnckaaW.PrintWords Go.Proofs.YthkclagcbjnckaaW.PrintLast Go.Proofs.YthkclagcbjnckaaW.PrintMore
def TF (ok : Nat → Prop) (x : S27) (w : World) (e : Ending) (w' : World) : Prop :=
  ∃ A c, e = .returned (.agg #[.int .i64 x.f0, .int .i64 x.f1, .slice A x.f2.length c]) ∧ x.f2.length ≤ c ∧ Kd.F k27 w' (fun k => ok k ∨ (w.heap.size ≤ k ∧ k < w'.heap.size)) A x.f2.length x.f2 ∧ Below w.heap.size w w'
theorem TF_R {ok : Nat → Prop} {x : S27} {w w' : World} {e : Ending} (h : ∃ v, e = .returned (.agg #[.int .i64 x.f0, .int .i64 x.f1, v]) ∧ Kd.R k27 27 w' w.heap.size (fun _ => True) v x.f2 ∧ Below w.heap.size w w') : TF ok x w e w' := by
  obtain ⟨v, he, hr, hb⟩ := h
  obtain ⟨A, c, rfl, hc, -⟩ := Kd.R_reads hr
  exact ⟨A, c, he, hc, Kd.F_mono (Kd.R_F (Kd.R_bound hr)) (fun k hk => .inr ⟨hk.2.1, hk.2.2.1⟩), hb⟩
theorem TF_N {P ok : Nat → Prop} {x : S27} {w w' : World} {e : Ending} (h : ∃ v, e = .returned (.agg #[.int .i64 x.f0, .int .i64 x.f1, v]) ∧ Kd.N k27 27 w' w.heap.size P v x.f2 ∧ Below w.heap.size w w') (hP : ∀ k, P k → ok k ∨ w.heap.size ≤ k) : TF ok x w e w' := by
  obtain ⟨v, he, hr, hb⟩ := h
  obtain ⟨A, c, rfl, hc, -⟩ := Kd.N_reads hr
  exact ⟨A, c, he, hc, Kd.F_mono (Kd.N_F (Kd.N_bound hr)) (fun k hk => (hP k hk.1).imp id fun h => ⟨h, hk.2⟩), hb⟩
theorem num_c (n : Int) (w : World) : Calls Try.prog 43 #[.int .i64 n] w (TF (fun _ => False) ⟨1, n, []⟩ w) :=
  (tenetlaw24_num.calls n 1 n [] w rfl).mono fun _ _ h => TF_R h
theorem v_c (n : Int) (w : World) : Calls Try.prog 42 #[.int .i64 n] w (TF (fun _ => False) ⟨2, n, []⟩ w) :=
  (tenetlaw24_v.calls n 2 n [] w rfl).mono fun _ _ h => TF_R h
theorem addE_c (x y : S27) (P1 P2 : Nat → Prop) (A1 A2 : Option Addr) (c1 c2 : Nat) (w : World) (hr1 : Kd.F k27 w P1 A1 x.f2.length x.f2) (hc1 : x.f2.length ≤ c1) (hr2 : Kd.F k27 w P2 A2 y.f2.length y.f2) (hc2 : y.f2.length ≤ c2) :
    Calls Try.prog 39 #[.agg #[.int .i64 x.f0, .int .i64 x.f1, .slice A1 x.f2.length c1], .agg #[.int .i64 y.f0, .int .i64 y.f1, .slice A2 y.f2.length c2]] w (TF (fun k => P1 k ∨ P2 k) ⟨3, 0, [x, y]⟩ w) :=
  (tenetlaw24_add.calls x.f0 x.f1 _ A1 c1 x.f2 y.f0 y.f1 _ A2 c2 y.f2 3 0 [x, y] w (Kd.V_mk hc1 hr1) (Kd.V_mk hc2 hr2) (by cases x; cases y; rfl)).mono fun _ _ h => TF_N h fun _ hk => hk
theorem mulE_c (x y : S27) (P1 P2 : Nat → Prop) (A1 A2 : Option Addr) (c1 c2 : Nat) (w : World) (hr1 : Kd.F k27 w P1 A1 x.f2.length x.f2) (hc1 : x.f2.length ≤ c1) (hr2 : Kd.F k27 w P2 A2 y.f2.length y.f2) (hc2 : y.f2.length ≤ c2) :
    Calls Try.prog 40 #[.agg #[.int .i64 x.f0, .int .i64 x.f1, .slice A1 x.f2.length c1], .agg #[.int .i64 y.f0, .int .i64 y.f1, .slice A2 y.f2.length c2]] w (TF (fun k => P1 k ∨ P2 k) ⟨4, 0, [x, y]⟩ w) :=
  (tenetlaw24_mul.calls x.f0 x.f1 _ A1 c1 x.f2 y.f0 y.f1 _ A2 c2 y.f2 4 0 [x, y] w (Kd.V_mk hc1 hr1) (Kd.V_mk hc2 hr2) (by cases x; cases y; rfl)).mono fun _ _ h => TF_N h fun _ hk => hk
theorem re_alloc {w : World} {o o' : Obj} {a : Addr} {v : Option Value} (h : a.block < w.heap.size) (h2 : (w.alloc o).cell? a = v) : (w.alloc o').cell? a = v := by
  rw [World.cell?_alloc_lt _ _ _ h] at h2 ⊢; exact h2
theorem bt {w W w' : World} (h1 : Below w.heap.size w W) (h2 : Below W.heap.size W w') : Below w.heap.size w w' := below_then h1 h1.size h2
def Box (w : World) (p : Nat) (a b : Int) (v : Value) : Prop :=
  w.heap[p]? = some (.cells #[.int .i64 a, .int .i64 b, v] 27 (0, 0))
end Go.Proofs.Ythkclagcbjnckaa.Pa

namespace Go.Proofs.Ythkclagcbjnckaa.Pa
open Go.RowKit Go.Proofs.RawMap Go.Proofs.YthkclagcbjnckaaW.PrintWords Go.Proofs.YthkclagcbjnckaaW.PrintLast Go.Proofs.YthkclagcbjnckaaW.PrintMore
theorem la0 (w : World) (o : Obj) : w.heap.size < (w.alloc o).heap.size := by simp
theorem la {n : Nat} {w : World} {o : Obj} (h : n < w.heap.size) : n < (w.alloc o).heap.size := Nat.lt_trans h (la0 w o)
theorem ld {n : Nat} {w : World} (h : n < w.heap.size) : n < w.drew.heap.size := h
theorem F_to {α : Type} {d : Kd α} {ok : Nat → Prop} {w W : World} {A : Option Addr} {n : Nat} {xs : List α} (h : Kd.F d w ok A n xs) (hb : Below w.heap.size w W) : Kd.F d W (fun k => ok k ∧ k < w.heap.size) A n xs := Kd.F_old h hb
theorem box_new {w w' : World} {a b : Int} {v : Value} (hb : Below (w.alloc (.cells #[.int .i64 a, .int .i64 b, v] 27)).heap.size (w.alloc (.cells #[.int .i64 a, .int .i64 b, v] 27)) w') : Box w' w.heap.size a b v :=
  blk_below (blk_new _ _) hb
theorem box_newd {w w' : World} {a b : Int} {v : Value} (hb : Below (w.alloc (.cells #[.int .i64 a, .int .i64 b, v] 27)).drew.heap.size (w.alloc (.cells #[.int .i64 a, .int .i64 b, v] 27)).drew w') : Box w' w.heap.size a b v :=
  blk_below (blk_drew (blk_new _ _)) hb
theorem box_new2 {w w' : World} {o : Obj} {a b : Int} {v : Value} (hb : Below ((w.alloc o).alloc (.cells #[.int .i64 a, .int .i64 b, v] 27)).drew.heap.size ((w.alloc o).alloc (.cells #[.int .i64 a, .int .i64 b, v] 27)).drew w') : Box w' (w.heap.size + 1) a b v := by
  have h : Box w' (w.alloc o).heap.size a b v := blk_below (blk_drew (blk_new _ _)) hb
  simpa using h
theorem box_kept {w w' : World} {p : Nat} {a b : Int} {v : Value} (hb : Below w.heap.size w w') (h : Box w p a b v) : Box w' p a b v :=
  blk_below h hb
theorem box_all {w : World} {p : Nat} {a b : Int} {v : Value} (h : Box w p a b v) : p < w.heap.size ∧ w.cell? ⟨p, 0, none⟩ = some (.int .i64 a) ∧ w.cell? ⟨p, 1, none⟩ = some (.int .i64 b) ∧ w.cell? ⟨p, 2, none⟩ = some v ∧ w.frozen? ⟨p, 0, none⟩ = false ∧ w.frozen? ⟨p, 1, none⟩ = false ∧ w.frozen? ⟨p, 2, none⟩ = false :=
  ⟨blk_lt h, blk_cell h 0, blk_cell h 1, blk_cell h 2, blk_frozen h 0, blk_frozen h 1, blk_frozen h 2⟩
theorem sz_alloc (w : World) (o : Obj) : (w.alloc o).heap.size = w.heap.size + 1 := by simp
theorem sz_drew (w : World) : w.drew.heap.size = w.heap.size := rfl
theorem box_set {w : World} {p : Nat} {a b : Int} {v : Value} (h : Box w p a b v) (a' b' : Int) (v' : Value) : Box (((w.setCell ⟨p, 0, none⟩ (.int .i64 a')).setCell ⟨p, 1, none⟩ (.int .i64 b')).setCell ⟨p, 2, none⟩ v') p a' b' v' :=
  blk_put (blk_put (blk_put h 0 _ rfl) 1 _ rfl) 2 _ rfl
theorem box_set_lt {w : World} {p : Nat} {a b : Int} {v : Value} (h : Box w p a b v) (a' b' : Int) (v' : Value) : p < (((w.setCell ⟨p, 0, none⟩ (.int .i64 a')).setCell ⟨p, 1, none⟩ (.int .i64 b')).setCell ⟨p, 2, none⟩ v').heap.size :=
  blk_lt (box_set h a' b' v')
theorem box_set_C {w : World} {p : Nat} {u0 u1 u2 : Value} {ok : Nat → Prop} {A : Option Addr} {n : Nat} {xs : List S27} (h : Kd.F k27 w ok A n xs) (hp : ∀ k, ok k → k ≠ p) : k27.C (((w.setCell ⟨p, 0, none⟩ u0).setCell ⟨p, 1, none⟩ u1).setCell ⟨p, 2, none⟩ u2) A n xs :=
  Kd.F_now (Kd.F_far (Kd.F_far (Kd.F_far h (p := ⟨p, 0, none⟩) hp u0) (p := ⟨p, 1, none⟩) hp u1) (p := ⟨p, 2, none⟩) hp u2)
theorem box_set_below {w W : World} {p : Nat} {u0 u1 u2 : Value} (h : Below w.heap.size w W) (hp : w.heap.size ≤ p) : Below w.heap.size w (((W.setCell ⟨p, 0, none⟩ u0).setCell ⟨p, 1, none⟩ u1).setCell ⟨p, 2, none⟩ u2) :=
  below_set (below_set (below_set h hp) hp) hp
theorem box_set_sz {n : Nat} {w : World} {p : Nat} {u0 u1 u2 : Value} (h : n < w.heap.size) : n < (((w.setCell ⟨p, 0, none⟩ u0).setCell ⟨p, 1, none⟩ u1).setCell ⟨p, 2, none⟩ u2).heap.size := by
  simpa using h
theorem num1_c (n : Int) (w : World) : Calls Try.prog 43 #[.int .i64 n] w fun e w' => ∃ A c, e = .returned (.agg #[.int .i64 1, .int .i64 n, .slice A 0 c]) ∧ 0 ≤ c ∧ Kd.F k27 w' (fun k => False ∨ (w.heap.size ≤ k ∧ k < w'.heap.size)) A 0 [] ∧ Below w.heap.size w w' := num_c n w
theorem addl_c (x0 x1 y0 y1 : Int) (P1 P2 : Nat → Prop) (A1 A2 : Option Addr) (c1 c2 : Nat) (w : World) (hr1 : Kd.F k27 w P1 A1 0 []) (hc1 : 0 ≤ c1) (hr2 : Kd.F k27 w P2 A2 0 []) (hc2 : 0 ≤ c2) :
    Calls Try.prog 39 #[.agg #[.int .i64 x0, .int .i64 x1, .slice A1 0 c1], .agg #[.int .i64 y0, .int .i64 y1, .slice A2 0 c2]] w fun e w' => ∃ A c, e = .returned (.agg #[.int .i64 3, .int .i64 0, .slice A 2 c]) ∧ 2 ≤ c ∧ Kd.F k27 w' (fun k => (P1 k ∨ P2 k) ∨ (w.heap.size ≤ k ∧ k < w'.heap.size)) A 2 [⟨x0, x1, []⟩, ⟨y0, y1, []⟩] ∧ Below w.heap.size w w' :=
  addE_c ⟨x0, x1, []⟩ ⟨y0, y1, []⟩ P1 P2 A1 A2 c1 c2 w hr1 hc1 hr2 hc2
theorem mull_c (x0 x1 y0 y1 : Int) (P1 P2 : Nat → Prop) (A1 A2 : Option Addr) (c1 c2 : Nat) (w : World) (hr1 : Kd.F k27 w P1 A1 0 []) (hc1 : 0 ≤ c1) (hr2 : Kd.F k27 w P2 A2 0 []) (hc2 : 0 ≤ c2) :
    Calls Try.prog 40 #[.agg #[.int .i64 x0, .int .i64 x1, .slice A1 0 c1], .agg #[.int .i64 y0, .int .i64 y1, .slice A2 0 c2]] w fun e w' => ∃ A c, e = .returned (.agg #[.int .i64 4, .int .i64 0, .slice A 2 c]) ∧ 2 ≤ c ∧ Kd.F k27 w' (fun k => (P1 k ∨ P2 k) ∨ (w.heap.size ≤ k ∧ k < w'.heap.size)) A 2 [⟨x0, x1, []⟩, ⟨y0, y1, []⟩] ∧ Below w.heap.size w w' :=
  mulE_c ⟨x0, x1, []⟩ ⟨y0, y1, []⟩ P1 P2 A1 A2 c1 c2 w hr1 hc1 hr2 hc2
theorem mul2_c (x0 x1 y0 y1 : Int) (xa xb ya yb : S27) (P1 P2 : Nat → Prop) (A1 A2 : Option Addr) (c1 c2 : Nat) (w : World) (hr1 : Kd.F k27 w P1 A1 2 [xa, xb]) (hc1 : 2 ≤ c1) (hr2 : Kd.F k27 w P2 A2 2 [ya, yb]) (hc2 : 2 ≤ c2) :
    Calls Try.prog 40 #[.agg #[.int .i64 x0, .int .i64 x1, .slice A1 2 c1], .agg #[.int .i64 y0, .int .i64 y1, .slice A2 2 c2]] w fun e w' => ∃ A c, e = .returned (.agg #[.int .i64 4, .int .i64 0, .slice A 2 c]) ∧ 2 ≤ c ∧ Kd.F k27 w' (fun k => (P1 k ∨ P2 k) ∨ (w.heap.size ≤ k ∧ k < w'.heap.size)) A 2 [⟨x0, x1, [xa, xb]⟩, ⟨y0, y1, [ya, yb]⟩] ∧ Below w.heap.size w w' :=
  mulE_c ⟨x0, x1, [xa, xb]⟩ ⟨y0, y1, [ya, yb]⟩ P1 P2 A1 A2 c1 c2 w hr1 hc1 hr2 hc2
theorem add2_c (x0 x1 y0 y1 : Int) (xa xb ya yb : S27) (P1 P2 : Nat → Prop) (A1 A2 : Option Addr) (c1 c2 : Nat) (w : World) (hr1 : Kd.F k27 w P1 A1 2 [xa, xb]) (hc1 : 2 ≤ c1) (hr2 : Kd.F k27 w P2 A2 2 [ya, yb]) (hc2 : 2 ≤ c2) :
    Calls Try.prog 39 #[.agg #[.int .i64 x0, .int .i64 x1, .slice A1 2 c1], .agg #[.int .i64 y0, .int .i64 y1, .slice A2 2 c2]] w fun e w' => ∃ A c, e = .returned (.agg #[.int .i64 3, .int .i64 0, .slice A 2 c]) ∧ 2 ≤ c ∧ Kd.F k27 w' (fun k => (P1 k ∨ P2 k) ∨ (w.heap.size ≤ k ∧ k < w'.heap.size)) A 2 [⟨x0, x1, [xa, xb]⟩, ⟨y0, y1, [ya, yb]⟩] ∧ Below w.heap.size w w' :=
  addE_c ⟨x0, x1, [xa, xb]⟩ ⟨y0, y1, [ya, yb]⟩ P1 P2 A1 A2 c1 c2 w hr1 hc1 hr2 hc2
theorem add20_c (x0 x1 y0 y1 : Int) (xa xb : S27) (P1 P2 : Nat → Prop) (A1 A2 : Option Addr) (c1 c2 : Nat) (w : World) (hr1 : Kd.F k27 w P1 A1 2 [xa, xb]) (hc1 : 2 ≤ c1) (hr2 : Kd.F k27 w P2 A2 0 []) (hc2 : 0 ≤ c2) :
    Calls Try.prog 39 #[.agg #[.int .i64 x0, .int .i64 x1, .slice A1 2 c1], .agg #[.int .i64 y0, .int .i64 y1, .slice A2 0 c2]] w fun e w' => ∃ A c, e = .returned (.agg #[.int .i64 3, .int .i64 0, .slice A 2 c]) ∧ 2 ≤ c ∧ Kd.F k27 w' (fun k => (P1 k ∨ P2 k) ∨ (w.heap.size ≤ k ∧ k < w'.heap.size)) A 2 [⟨x0, x1, [xa, xb]⟩, ⟨y0, y1, []⟩] ∧ Below w.heap.size w w' :=
  addE_c ⟨x0, x1, [xa, xb]⟩ ⟨y0, y1, []⟩ P1 P2 A1 A2 c1 c2 w hr1 hc1 hr2 hc2
abbrev TA : S27 := ⟨4, 0, [⟨3, 0, [⟨2, 0, []⟩, ⟨1, 1, []⟩]⟩, ⟨3, 0, [⟨2, 0, []⟩, ⟨1, 1, []⟩]⟩]⟩
abbrev TB : S27 := ⟨3, 0, [⟨3, 0, [⟨4, 0, [⟨2, 0, []⟩, ⟨2, 0, []⟩]⟩, ⟨4, 0, [⟨1, 2, []⟩, ⟨2, 0, []⟩]⟩]⟩, ⟨1, 1, []⟩]⟩
def eA : Ex := .mul (.add (.var 0) (.num 1)) (.add (.var 0) (.num 1))
def eB : Ex := .add (.add (.mul (.var 0) (.var 0)) (.mul (.num 2) (.var 0))) (.num 1)
theorem nodes_two (a b : Int) (x y : S27) : nodes ⟨a, b, [x, y]⟩ = nodes x + nodes y + 1 := by simp only [nodes, nodesL]; omega
theorem nodes_nil (a b : Int) : nodes ⟨a, b, []⟩ = 1 := by simp only [nodes, nodesL]
theorem depth_two (a b : Int) (x y : S27) : depth ⟨a, b, [x, y]⟩ = max (depth x) (depth y) + 1 := by simp only [depth, depthL]; simp
theorem depth_nil (a b : Int) : depth ⟨a, b, []⟩ = 1 := by simp only [depth, depthL]
theorem aw_a : nodes TA ≤ 1152921504606846976 ∧ validB TA = true := by
  have h : nodes TA = 7 := by simp only [nodes_two, nodes_nil]
  have h2 : depth TA = 3 := by simp only [depth_two, depth_nil]; rfl
  refine ⟨by omega, ?_⟩
  unfold validB
  rw [show formedB TA = true from formedB_of eA, show rightB TA 1000000 = _ from right_top eA 1000000, h, h2]
  rfl
theorem aw_b : nodes TB ≤ 1152921504606846976 ∧ validB TB = true := by
  have h : nodes TB = 9 := by simp only [nodes_two, nodes_nil]
  have h2 : depth TB = 4 := by simp only [depth_two, depth_nil]; rfl
  refine ⟨by omega, ?_⟩
  unfold validB
  rw [show formedB TB = true from formedB_of eB, show rightB TB 1000000 = _ from right_top eB 1000000, h, h2]
  rfl
theorem aw_err : errB TA TB = 0 := by
  unfold errB
  rw [aw_a.2, aw_b.2, show polyS TA = polyOf eA from polyS_of eA, show polyS TB = polyOf eB from polyS_of eB]
  decide +kernel
theorem aw_eq : equalB TA TB = true := by
  rw [equalB_iff]
  have h : polyOf eA = some [([2, 0, 0, 0, 0, 0, 0, 0], 1), ([1, 0, 0, 0, 0, 0, 0, 0], 2), ([0, 0, 0, 0, 0, 0, 0, 0], 1)] := by decide +kernel
  have h' : polyOf eB = some [([2, 0, 0, 0, 0, 0, 0, 0], 1), ([1, 0, 0, 0, 0, 0, 0, 0], 2), ([0, 0, 0, 0, 0, 0, 0, 0], 1)] := by decide +kernel
  exact ⟨aw_err, _, _, (polyS_of eA).trans h, (polyS_of eB).trans h', .refl _⟩
theorem sc_far {w : World} {p i : Nat} {u : Value} {a : Addr} {v : Option Value} (h : a.block < p) (h2 : w.cell? a = v) : (w.setCell ⟨p, i, none⟩ u).cell? a = v := by
  rw [World.cell?_setCell_other]; exact h2
  intro e; subst e; exact Nat.lt_irrefl _ h
set_option maxRecDepth 100000 in
set_option maxHeartbeats 4000000 in
theorem awake_c (w : World) : Calls Try.prog 13 #[] w fun e w' => e = .returned (.bool true) ∧ Below w.heap.size w w' := by
  have hu27 := Try.underlying27
  go_enter Try.func13, Try.ntmps13
  go_wp2_with fail
  refine (v_c 0 w).mono ?_
  rintro e w2 ⟨A0, c0, rfl, hc0, hF0, hb0⟩
  simp only [List.length_nil]
  simp only [List.length_nil] at hF0 hc0
  go_upto_region 2 with (fail)
  go_cut [1, 2] (fun s1 s2 wc => s1 = .pointer (some ⟨w2.heap.size, 0, none⟩) ∧ (wc.cell? ⟨w2.heap.size, 0, none⟩ = some (.int .i64 2) ∧ wc.cell? ⟨w2.heap.size, 1, none⟩ = some (.int .i64 0) ∧ wc.cell? ⟨w2.heap.size, 2, none⟩ = some (.slice A0 0 c0)) ∧ ∃ p A c, s2 = .pointer (some ⟨p, 0, none⟩) ∧ p < wc.heap.size ∧ Box wc p 4 0 (.slice A 2 c) ∧ 2 ≤ c ∧ k27.C wc A 2 [⟨3, 0, [⟨2, 0, []⟩, ⟨1, 1, []⟩]⟩, ⟨3, 0, [⟨2, 0, []⟩, ⟨1, 1, []⟩]⟩] ∧ Below w2.heap.size w2 wc ∧ w2.heap.size < wc.heap.size)
  case rest =>
    obtain ⟨rfl, ⟨hx0, hx1, hx2⟩, p2, A5, c5, rfl, hp2, hbx, hc5, hC5, HB2, hzc⟩ := hcut
    have hF0' : Kd.F k27 wc (fun k => k < w2.heap.size) A0 0 [] := Kd.F_mono (Kd.F_old hF0 HB2) (fun _ h => h.2)
    clear hF0
    have HBX := Aside0.mk hbx
    have HC5 := Aside0.mk hC5
    have HB2 := Aside0.mk HB2
    clear hp2 hbx hC5
    go_upto_region 3 with (fail)
    go_cut [1, 2, 3] (fun s1 s2 s3 wd => s2 = .pointer (some ⟨p2, 0, none⟩) ∧ ∃ p A c, s3 = .pointer (some ⟨p, 0, none⟩) ∧ Box wd p 3 0 (.slice A 2 c) ∧ 2 ≤ c ∧ k27.C wd A 2 [⟨3, 0, [⟨4, 0, [⟨2, 0, []⟩, ⟨2, 0, []⟩]⟩, ⟨4, 0, [⟨1, 2, []⟩, ⟨2, 0, []⟩]⟩]⟩, ⟨1, 1, []⟩] ∧ Below wc.heap.size wc wd)
    case rest =>
      obtain ⟨rfl, p3, A7, c7, rfl, hbx3, hc7, hC7, hB3⟩ := hcut
      have HB3 := Aside0.mk (Below.trans hb0 ⟨(below_then HB2.out HB2.out.size hB3).os, (below_then HB2.out HB2.out.size hB3).tape, (below_then HB2.out HB2.out.size hB3).output, (below_then HB2.out HB2.out.size hB3).size, fun i hi => (below_then HB2.out HB2.out.size hB3).block i (Nat.lt_of_lt_of_le hi hb0.size)⟩)
      have HB22 := Aside0.mk (box_kept hB3 HBX.out)
      have HC5' := Aside0.mk (Kd.C_below HC5.out hB3)
      obtain ⟨u0, u1, u2, u3, u4, u5, u6⟩ := box_all HB22.out
      obtain ⟨v0, v1, v2, v3, v4, v5, v6⟩ := box_all hbx3
      have HC7 := Aside0.mk hC7
      clear hC7 hbx3 hB3
      go_wp2_with fail
      refine (equal_c ⟨4, 0, [⟨3, 0, [⟨2, 0, []⟩, ⟨1, 1, []⟩]⟩, ⟨3, 0, [⟨2, 0, []⟩, ⟨1, 1, []⟩]⟩]⟩ ⟨3, 0, [⟨3, 0, [⟨4, 0, [⟨2, 0, []⟩, ⟨2, 0, []⟩]⟩, ⟨4, 0, [⟨1, 2, []⟩, ⟨2, 0, []⟩]⟩]⟩, ⟨1, 1, []⟩]⟩ A5 A7 c5 c7 _ aw_a.1 aw_b.1 (Kd.C_below HC5'.out (by (first | exact Below.refl _ _ | assumption | exact below_drew (Below.refl _ _) | exact below_drew (below_alloc (Below.refl _ _) _) | exact below_alloc (below_drew (below_alloc (Below.refl _ _) _)) _ | exact below_alloc (Below.refl _ _) _ | (apply below_alloc; assumption)))) hc5 (Kd.C_below HC7.out (by (first | exact Below.refl _ _ | assumption | exact below_drew (Below.refl _ _) | exact below_drew (below_alloc (Below.refl _ _) _) | exact below_alloc (below_drew (below_alloc (Below.refl _ _) _)) _ | exact below_alloc (Below.refl _ _) _ | (apply below_alloc; assumption)))) hc7).mono ?_
      rintro e wf ⟨rfl, hbf⟩
      rw [aw_eq, aw_err]
      go_wp2_with fail
      go_ret
      exact ⟨rfl, below_then HB3.out HB3.out.size hbf⟩
    case first =>
    have tok1 : True := trivial
    have tok2 : True := trivial
    have tok3 : True := trivial
    have tok4 : True := trivial
    have tok5 : True := trivial
    have tok6 : True := trivial
    go_region_held3 (fun w' => w'.cell? ⟨w2.heap.size, 0, none⟩ = some (.int .i64 2) ∧ w'.cell? ⟨w2.heap.size, 1, none⟩ = some (.int .i64 0) ∧ w'.cell? ⟨w2.heap.size, 2, none⟩ = some (.slice A0 0 c0))
      (((try dsimp only); (try go_split_ands); (repeat' apply And.intro); all_goals (first | with_reducible assumption | (with_reducible apply sc_far; (first | with_reducible assumption | exact Nat.lt_succ_self _ | (with_reducible apply la0) | (with_reducible apply la; (first | with_reducible assumption | with_reducible apply la0)) | (with_reducible apply ld; first | with_reducible assumption | (with_reducible apply la0) | (with_reducible apply la; (first | with_reducible assumption | with_reducible apply la0))) | (simp; done) | (simp; omega)); with_reducible apply sc_far; (first | with_reducible assumption | exact Nat.lt_succ_self _ | (with_reducible apply la0) | (with_reducible apply la; (first | with_reducible assumption | with_reducible apply la0)) | (with_reducible apply ld; first | with_reducible assumption | (with_reducible apply la0) | (with_reducible apply la; (first | with_reducible assumption | with_reducible apply la0))) | (simp; done) | (simp; omega)); with_reducible apply sc_far; (first | with_reducible assumption | exact Nat.lt_succ_self _ | (with_reducible apply la0) | (with_reducible apply la; (first | with_reducible assumption | with_reducible apply la0)) | (with_reducible apply ld; first | with_reducible assumption | (with_reducible apply la0) | (with_reducible apply la; (first | with_reducible assumption | with_reducible apply la0))) | (simp; done) | (simp; omega)); with_reducible assumption) | (with_reducible apply re_alloc; (first | with_reducible assumption | exact Nat.lt_succ_self _ | (with_reducible apply la0) | (with_reducible apply la; (first | with_reducible assumption | with_reducible apply la0)) | (with_reducible apply ld; first | with_reducible assumption | (with_reducible apply la0) | (with_reducible apply la; (first | with_reducible assumption | with_reducible apply la0))) | (simp; done) | (simp; omega)); with_reducible assumption) | (refine Eq.trans (World.cell?_alloc_lt _ _ _ ?_) ?_; (first | with_reducible assumption | exact Nat.lt_succ_self _ | (with_reducible apply la0) | (with_reducible apply la; (first | with_reducible assumption | with_reducible apply la0)) | (with_reducible apply ld; first | with_reducible assumption | (with_reducible apply la0) | (with_reducible apply la; (first | with_reducible assumption | with_reducible apply la0))) | (simp; done) | (simp; omega)); with_reducible assumption) | (refine Eq.trans (hbb.cell ?_) ?_; (first | with_reducible assumption | exact Nat.lt_succ_self _ | (with_reducible apply la0) | (with_reducible apply la; (first | with_reducible assumption | with_reducible apply la0)) | (with_reducible apply ld; first | with_reducible assumption | (with_reducible apply la0) | (with_reducible apply la; (first | with_reducible assumption | with_reducible apply la0))) | (simp; done) | (simp; omega)); with_reducible assumption) | assumption | go_keep)))
      (first
      | (go_at_call 40; have _t := tok1; refine (mull_c 2 0 2 0 _ _ A0 A0 c0 c0 _ (F_to (w := wc) hF0' (by (first | exact Below.refl _ _ | assumption | exact below_drew (Below.refl _ _) | exact below_drew (below_alloc (Below.refl _ _) _) | exact below_alloc (below_drew (below_alloc (Below.refl _ _) _)) _ | exact below_alloc (Below.refl _ _) _ | (apply below_alloc; assumption)))) hc0 (F_to (w := wc) hF0' (by (first | exact Below.refl _ _ | assumption | exact below_drew (Below.refl _ _) | exact below_drew (below_alloc (Below.refl _ _) _) | exact below_alloc (below_drew (below_alloc (Below.refl _ _) _)) _ | exact below_alloc (Below.refl _ _) _ | (apply below_alloc; assumption)))) hc0).mono ?_; rintro e w3 ⟨A1, c1, rfl, hc1, hF3, hbb⟩; have s3 := hbb.size; (first | have bx := box_newd hbb | have bx := box_new hbb | have bx := box_kept hbb (by assumption) | have bx := True.intro); have q3 := bt (w := wc) (by (first | exact Below.refl _ _ | assumption | exact below_drew (Below.refl _ _) | exact below_drew (below_alloc (Below.refl _ _) _) | exact below_alloc (below_drew (below_alloc (Below.refl _ _) _)) _ | exact below_alloc (Below.refl _ _) _ | (apply below_alloc; assumption))) hbb; have z3 : w2.heap.size < w3.heap.size := Nat.lt_of_lt_of_le (by (first | with_reducible assumption | exact Nat.lt_succ_self _ | (with_reducible apply la0) | (with_reducible apply la; (first | with_reducible assumption | with_reducible apply la0)) | (with_reducible apply ld; first | with_reducible assumption | (with_reducible apply la0) | (with_reducible apply la; (first | with_reducible assumption | with_reducible apply la0))) | (simp; done) | (simp; omega))) hbb.size; clear tok1)
      | (go_at_call 43; have _t := tok2; refine (num1_c 2 _).mono ?_; rintro e w4 ⟨A2, c2, rfl, hc2, hF4, hbb⟩; have s4 := hbb.size; (first | have bx := box_newd hbb | have bx := box_new hbb | have bx := box_kept hbb (by assumption) | have bx := True.intro); have q4 := bt (w := wc) (by (first | exact Below.refl _ _ | assumption | exact below_drew (Below.refl _ _) | exact below_drew (below_alloc (Below.refl _ _) _) | exact below_alloc (below_drew (below_alloc (Below.refl _ _) _)) _ | exact below_alloc (Below.refl _ _) _ | (apply below_alloc; assumption))) hbb; have r4_3 := bt (w := w3) (by (first | exact Below.refl _ _ | assumption | exact below_drew (Below.refl _ _) | exact below_drew (below_alloc (Below.refl _ _) _) | exact below_alloc (below_drew (below_alloc (Below.refl _ _) _)) _ | exact below_alloc (Below.refl _ _) _ | (apply below_alloc; assumption))) hbb; have z4 : w2.heap.size < w4.heap.size := Nat.lt_of_lt_of_le (by (first | with_reducible assumption | exact Nat.lt_succ_self _ | (with_reducible apply la0) | (with_reducible apply la; (first | with_reducible assumption | with_reducible apply la0)) | (with_reducible apply ld; first | with_reducible assumption | (with_reducible apply la0) | (with_reducible apply la; (first | with_reducible assumption | with_reducible apply la0))) | (simp; done) | (simp; omega))) hbb.size; clear tok2)
      | (go_at_call 40; have _t := tok3; refine (mull_c 1 2 2 0 _ _ A2 A0 c2 c0 _ (F_to (w := w4) hF4 (by (first | exact Below.refl _ _ | assumption | exact below_drew (Below.refl _ _) | exact below_drew (below_alloc (Below.refl _ _) _) | exact below_alloc (below_drew (below_alloc (Below.refl _ _) _)) _ | exact below_alloc (Below.refl _ _) _ | (apply below_alloc; assumption)))) hc2 (F_to (w := wc) hF0' (by (first | exact Below.refl _ _ | assumption | exact below_drew (Below.refl _ _) | exact below_drew (below_alloc (Below.refl _ _) _) | exact below_alloc (below_drew (below_alloc (Below.refl _ _) _)) _ | exact below_alloc (Below.refl _ _) _ | (apply below_alloc; assumption)))) hc0).mono ?_; rintro e w5 ⟨A3, c3, rfl, hc3, hF5, hbb⟩; have s5 := hbb.size; (first | have bx := box_newd hbb | have bx := box_new hbb | have bx := box_kept hbb (by assumption) | have bx := True.intro); have q5 := bt (w := wc) (by (first | exact Below.refl _ _ | assumption | exact below_drew (Below.refl _ _) | exact below_drew (below_alloc (Below.refl _ _) _) | exact below_alloc (below_drew (below_alloc (Below.refl _ _) _)) _ | exact below_alloc (Below.refl _ _) _ | (apply below_alloc; assumption))) hbb; have r5_3 := bt (w := w3) (by (first | exact Below.refl _ _ | assumption | exact below_drew (Below.refl _ _) | exact below_drew (below_alloc (Below.refl _ _) _) | exact below_alloc (below_drew (below_alloc (Below.refl _ _) _)) _ | exact below_alloc (Below.refl _ _) _ | (apply below_alloc; assumption))) hbb; have z5 : w2.heap.size < w5.heap.size := Nat.lt_of_lt_of_le (by (first | with_reducible assumption | exact Nat.lt_succ_self _ | (with_reducible apply la0) | (with_reducible apply la; (first | with_reducible assumption | with_reducible apply la0)) | (with_reducible apply ld; first | with_reducible assumption | (with_reducible apply la0) | (with_reducible apply la; (first | with_reducible assumption | with_reducible apply la0))) | (simp; done) | (simp; omega))) hbb.size; clear tok3)
      | (go_at_call 39; have _t := tok4; refine (add2_c 4 0 4 0 ⟨2, 0, []⟩ ⟨2, 0, []⟩ ⟨1, 2, []⟩ ⟨2, 0, []⟩ _ _ A1 A3 c1 c3 _ (F_to (w := w3) hF3 (by (first | exact Below.refl _ _ | assumption | exact below_drew (Below.refl _ _) | exact below_drew (below_alloc (Below.refl _ _) _) | exact below_alloc (below_drew (below_alloc (Below.refl _ _) _)) _ | exact below_alloc (Below.refl _ _) _ | (apply below_alloc; assumption)))) hc1 (F_to (w := w5) hF5 (by (first | exact Below.refl _ _ | assumption | exact below_drew (Below.refl _ _) | exact below_drew (below_alloc (Below.refl _ _) _) | exact below_alloc (below_drew (below_alloc (Below.refl _ _) _)) _ | exact below_alloc (Below.refl _ _) _ | (apply below_alloc; assumption)))) hc3).mono ?_; rintro e w6 ⟨A4, c4, rfl, hc4, hF6, hbb⟩; have s6 := hbb.size; (first | have bx := box_newd hbb | have bx := box_new hbb | have bx := box_kept hbb (by assumption) | have bx := True.intro); have q6 := bt (w := wc) (by (first | exact Below.refl _ _ | assumption | exact below_drew (Below.refl _ _) | exact below_drew (below_alloc (Below.refl _ _) _) | exact below_alloc (below_drew (below_alloc (Below.refl _ _) _)) _ | exact below_alloc (Below.refl _ _) _ | (apply below_alloc; assumption))) hbb; have z6 : w2.heap.size < w6.heap.size := Nat.lt_of_lt_of_le (by (first | with_reducible assumption | exact Nat.lt_succ_self _ | (with_reducible apply la0) | (with_reducible apply la; (first | with_reducible assumption | with_reducible apply la0)) | (with_reducible apply ld; first | with_reducible assumption | (with_reducible apply la0) | (with_reducible apply la; (first | with_reducible assumption | with_reducible apply la0))) | (simp; done) | (simp; omega))) hbb.size; clear tok4)
      | (go_at_call 43; have _t := tok5; refine (num1_c 1 _).mono ?_; rintro e w7 ⟨A6, c6, rfl, hc6, hF7, hbb⟩; have s7 := hbb.size; (first | have bx := box_newd hbb | have bx := box_new hbb | have bx := box_kept hbb (by assumption) | have bx := True.intro); have q7 := bt (w := wc) (by (first | exact Below.refl _ _ | assumption | exact below_drew (Below.refl _ _) | exact below_drew (below_alloc (Below.refl _ _) _) | exact below_alloc (below_drew (below_alloc (Below.refl _ _) _)) _ | exact below_alloc (Below.refl _ _) _ | (apply below_alloc; assumption))) hbb; have r7_6 := bt (w := w6) (by (first | exact Below.refl _ _ | assumption | exact below_drew (Below.refl _ _) | exact below_drew (below_alloc (Below.refl _ _) _) | exact below_alloc (below_drew (below_alloc (Below.refl _ _) _)) _ | exact below_alloc (Below.refl _ _) _ | (apply below_alloc; assumption))) hbb; have z7 : w2.heap.size < w7.heap.size := Nat.lt_of_lt_of_le (by (first | with_reducible assumption | exact Nat.lt_succ_self _ | (with_reducible apply la0) | (with_reducible apply la; (first | with_reducible assumption | with_reducible apply la0)) | (with_reducible apply ld; first | with_reducible assumption | (with_reducible apply la0) | (with_reducible apply la; (first | with_reducible assumption | with_reducible apply la0))) | (simp; done) | (simp; omega))) hbb.size; clear tok5)
      | (go_at_call 39; have _t := tok6; refine (add20_c 3 0 1 1 ⟨4, 0, [⟨2, 0, []⟩, ⟨2, 0, []⟩]⟩ ⟨4, 0, [⟨1, 2, []⟩, ⟨2, 0, []⟩]⟩ _ _ A4 A6 c4 c6 _ (F_to (w := w6) hF6 (by (first | exact Below.refl _ _ | assumption | exact below_drew (Below.refl _ _) | exact below_drew (below_alloc (Below.refl _ _) _) | exact below_alloc (below_drew (below_alloc (Below.refl _ _) _)) _ | exact below_alloc (Below.refl _ _) _ | (apply below_alloc; assumption)))) hc4 (F_to (w := w7) hF7 (by (first | exact Below.refl _ _ | assumption | exact below_drew (Below.refl _ _) | exact below_drew (below_alloc (Below.refl _ _) _) | exact below_alloc (below_drew (below_alloc (Below.refl _ _) _)) _ | exact below_alloc (Below.refl _ _) _ | (apply below_alloc; assumption)))) hc6).mono ?_; rintro e w8 ⟨A7, c7, rfl, hc7, hF8, hbb⟩; have s8 := hbb.size; (first | have bx := box_newd hbb | have bx := box_new hbb | have bx := box_kept hbb (by assumption) | have bx := True.intro); have q8 := bt (w := wc) (by (first | exact Below.refl _ _ | assumption | exact below_drew (Below.refl _ _) | exact below_drew (below_alloc (Below.refl _ _) _) | exact below_alloc (below_drew (below_alloc (Below.refl _ _) _)) _ | exact below_alloc (Below.refl _ _) _ | (apply below_alloc; assumption))) hbb; have z8 : w2.heap.size < w8.heap.size := Nat.lt_of_lt_of_le (by (first | with_reducible assumption | exact Nat.lt_succ_self _ | (with_reducible apply la0) | (with_reducible apply la; (first | with_reducible assumption | with_reducible apply la0)) | (with_reducible apply ld; first | with_reducible assumption | (with_reducible apply la0) | (with_reducible apply la; (first | with_reducible assumption | with_reducible apply la0))) | (simp; done) | (simp; omega))) hbb.size; clear tok6; (first | have b1 := box_all bx | have b1 := True.intro); (try go_split_ands)))
    all_goals go_wp2_with fail
    all_goals go_meet
    all_goals (case rel =>
      go_light
      refine ⟨rfl, ?_⟩
      first
        | exact ⟨_, A7, c7, rfl, blk_new _ _, hc7, Kd.C_below (Kd.F_now hF8) (below_alloc (Below.refl _ _) _), below_alloc q8 _⟩
        | (obtain ⟨bk, hlt⟩ : Box w8 _ 0 0 (.slice none 0 0) ∧ True := ⟨by assumption, trivial⟩
           refine ⟨_, A7, c7, rfl, box_set bk _ _ _, hc7, ?_, ?_⟩
           · refine box_set_C hF8 ?_
             clear hF0' hF3 hF4 hF5 hF6 hF7 hF8
             intro k hk
             simp only [sz_alloc, sz_drew, false_or] at s3 s4 s5 s6 s7 s8 hk ⊢
             omega
           · refine box_set_below q8 ?_
             clear hF0' hF3 hF4 hF5 hF6 hF7 hF8
             simp only [sz_alloc, sz_drew] at s3 s4 s5 s6 s7 s8 ⊢
             omega))
  case first =>
  have tok1 : True := trivial
  have tok2 : True := trivial
  have tok3 : True := trivial
  have tok4 : True := trivial
  have tok5 : True := trivial
  go_region_held3 (fun w' => w'.cell? ⟨w2.heap.size, 0, none⟩ = some (.int .i64 2) ∧ w'.cell? ⟨w2.heap.size, 1, none⟩ = some (.int .i64 0) ∧ w'.cell? ⟨w2.heap.size, 2, none⟩ = some (.slice A0 0 c0))
    (((try dsimp only); (try go_split_ands); (repeat' apply And.intro); all_goals (first | with_reducible assumption | (with_reducible apply sc_far; (first | with_reducible assumption | exact Nat.lt_succ_self _ | (with_reducible apply la0) | (with_reducible apply la; (first | with_reducible assumption | with_reducible apply la0)) | (with_reducible apply ld; first | with_reducible assumption | (with_reducible apply la0) | (with_reducible apply la; (first | with_reducible assumption | with_reducible apply la0))) | (simp; done) | (simp; omega)); with_reducible apply sc_far; (first | with_reducible assumption | exact Nat.lt_succ_self _ | (with_reducible apply la0) | (with_reducible apply la; (first | with_reducible assumption | with_reducible apply la0)) | (with_reducible apply ld; first | with_reducible assumption | (with_reducible apply la0) | (with_reducible apply la; (first | with_reducible assumption | with_reducible apply la0))) | (simp; done) | (simp; omega)); with_reducible apply sc_far; (first | with_reducible assumption | exact Nat.lt_succ_self _ | (with_reducible apply la0) | (with_reducible apply la; (first | with_reducible assumption | with_reducible apply la0)) | (with_reducible apply ld; first | with_reducible assumption | (with_reducible apply la0) | (with_reducible apply la; (first | with_reducible assumption | with_reducible apply la0))) | (simp; done) | (simp; omega)); with_reducible assumption) | (with_reducible apply re_alloc; (first | with_reducible assumption | exact Nat.lt_succ_self _ | (with_reducible apply la0) | (with_reducible apply la; (first | with_reducible assumption | with_reducible apply la0)) | (with_reducible apply ld; first | with_reducible assumption | (with_reducible apply la0) | (with_reducible apply la; (first | with_reducible assumption | with_reducible apply la0))) | (simp; done) | (simp; omega)); with_reducible assumption) | (refine Eq.trans (World.cell?_alloc_lt _ _ _ ?_) ?_; (first | with_reducible assumption | exact Nat.lt_succ_self _ | (with_reducible apply la0) | (with_reducible apply la; (first | with_reducible assumption | with_reducible apply la0)) | (with_reducible apply ld; first | with_reducible assumption | (with_reducible apply la0) | (with_reducible apply la; (first | with_reducible assumption | with_reducible apply la0))) | (simp; done) | (simp; omega)); with_reducible assumption) | (refine Eq.trans (hbb.cell ?_) ?_; (first | with_reducible assumption | exact Nat.lt_succ_self _ | (with_reducible apply la0) | (with_reducible apply la; (first | with_reducible assumption | with_reducible apply la0)) | (with_reducible apply ld; first | with_reducible assumption | (with_reducible apply la0) | (with_reducible apply la; (first | with_reducible assumption | with_reducible apply la0))) | (simp; done) | (simp; omega)); with_reducible assumption) | assumption | go_keep)))
    (first
      | (go_at_call 43; have _t := tok1; refine (num1_c 1 _).mono ?_; rintro e w3 ⟨A1, c1, rfl, hc1, hF3, hbb⟩; have s3 := hbb.size; (first | have bx := box_new2 hbb | have bx := box_new hbb | have bx := box_kept hbb (by assumption) | have bx := True.intro); have q3 := bt (w := w2) (by (first | exact Below.refl _ _ | assumption | exact below_drew (Below.refl _ _) | exact below_drew (below_alloc (Below.refl _ _) _) | exact below_alloc (below_drew (below_alloc (Below.refl _ _) _)) _ | exact below_alloc (Below.refl _ _) _ | (apply below_alloc; assumption))) hbb; have z3 : w2.heap.size < w3.heap.size := Nat.lt_of_lt_of_le (by (first | with_reducible assumption | exact Nat.lt_succ_self _ | (with_reducible apply la0) | (with_reducible apply la; (first | with_reducible assumption | with_reducible apply la0)) | (with_reducible apply ld; first | with_reducible assumption | (with_reducible apply la0) | (with_reducible apply la; (first | with_reducible assumption | with_reducible apply la0))) | (simp; done) | (simp; omega))) hbb.size; clear tok1)
      | (go_at_call 39; have _t := tok2; refine (addl_c 2 0 1 1 _ _ A0 A1 c0 c1 _ (F_to (w := w2) hF0 (by (first | exact Below.refl _ _ | assumption | exact below_drew (Below.refl _ _) | exact below_drew (below_alloc (Below.refl _ _) _) | exact below_alloc (below_drew (below_alloc (Below.refl _ _) _)) _ | exact below_alloc (Below.refl _ _) _ | (apply below_alloc; assumption)))) hc0 (F_to (w := w3) hF3 (by (first | exact Below.refl _ _ | assumption | exact below_drew (Below.refl _ _) | exact below_drew (below_alloc (Below.refl _ _) _) | exact below_alloc (below_drew (below_alloc (Below.refl _ _) _)) _ | exact below_alloc (Below.refl _ _) _ | (apply below_alloc; assumption)))) hc1).mono ?_; rintro e w4 ⟨A2, c2, rfl, hc2, hF4, hbb⟩; have s4 := hbb.size; (first | have bx := box_new2 hbb | have bx := box_new hbb | have bx := box_kept hbb (by assumption) | have bx := True.intro); have q4 := bt (w := w2) (by (first | exact Below.refl _ _ | assumption | exact below_drew (Below.refl _ _) | exact below_drew (below_alloc (Below.refl _ _) _) | exact below_alloc (below_drew (below_alloc (Below.refl _ _) _)) _ | exact below_alloc (Below.refl _ _) _ | (apply below_alloc; assumption))) hbb; have z4 : w2.heap.size < w4.heap.size := Nat.lt_of_lt_of_le (by (first | with_reducible assumption | exact Nat.lt_succ_self _ | (with_reducible apply la0) | (with_reducible apply la; (first | with_reducible assumption | with_reducible apply la0)) | (with_reducible apply ld; first | with_reducible assumption | (with_reducible apply la0) | (with_reducible apply la; (first | with_reducible assumption | with_reducible apply la0))) | (simp; done) | (simp; omega))) hbb.size; clear tok2)
      | (go_at_call 43; have _t := tok3; refine (num1_c 1 _).mono ?_; rintro e w5 ⟨A3, c3, rfl, hc3, hF5, hbb⟩; have s5 := hbb.size; (first | have bx := box_new2 hbb | have bx := box_new hbb | have bx := box_kept hbb (by assumption) | have bx := True.intro); have q5 := bt (w := w2) (by (first | exact Below.refl _ _ | assumption | exact below_drew (Below.refl _ _) | exact below_drew (below_alloc (Below.refl _ _) _) | exact below_alloc (below_drew (below_alloc (Below.refl _ _) _)) _ | exact below_alloc (Below.refl _ _) _ | (apply below_alloc; assumption))) hbb; have r5 := bt (w := w4) (by (first | exact Below.refl _ _ | assumption | exact below_drew (Below.refl _ _) | exact below_drew (below_alloc (Below.refl _ _) _) | exact below_alloc (below_drew (below_alloc (Below.refl _ _) _)) _ | exact below_alloc (Below.refl _ _) _ | (apply below_alloc; assumption))) hbb; have z5 : w2.heap.size < w5.heap.size := Nat.lt_of_lt_of_le (by (first | with_reducible assumption | exact Nat.lt_succ_self _ | (with_reducible apply la0) | (with_reducible apply la; (first | with_reducible assumption | with_reducible apply la0)) | (with_reducible apply ld; first | with_reducible assumption | (with_reducible apply la0) | (with_reducible apply la; (first | with_reducible assumption | with_reducible apply la0))) | (simp; done) | (simp; omega))) hbb.size; clear tok3)
      | (go_at_call 39; have _t := tok4; refine (addl_c 2 0 1 1 _ _ A0 A3 c0 c3 _ (F_to (w := w2) hF0 (by (first | exact Below.refl _ _ | assumption | exact below_drew (Below.refl _ _) | exact below_drew (below_alloc (Below.refl _ _) _) | exact below_alloc (below_drew (below_alloc (Below.refl _ _) _)) _ | exact below_alloc (Below.refl _ _) _ | (apply below_alloc; assumption)))) hc0 (F_to (w := w5) hF5 (by (first | exact Below.refl _ _ | assumption | exact below_drew (Below.refl _ _) | exact below_drew (below_alloc (Below.refl _ _) _) | exact below_alloc (below_drew (below_alloc (Below.refl _ _) _)) _ | exact below_alloc (Below.refl _ _) _ | (apply below_alloc; assumption)))) hc3).mono ?_; rintro e w6 ⟨A4, c4, rfl, hc4, hF6, hbb⟩; have s6 := hbb.size; (first | have bx := box_new2 hbb | have bx := box_new hbb | have bx := box_kept hbb (by assumption) | have bx := True.intro); have q6 := bt (w := w2) (by (first | exact Below.refl _ _ | assumption | exact below_drew (Below.refl _ _) | exact below_drew (below_alloc (Below.refl _ _) _) | exact below_alloc (below_drew (below_alloc (Below.refl _ _) _)) _ | exact below_alloc (Below.refl _ _) _ | (apply below_alloc; assumption))) hbb; have r6 := bt (w := w4) (by (first | exact Below.refl _ _ | assumption | exact below_drew (Below.refl _ _) | exact below_drew (below_alloc (Below.refl _ _) _) | exact below_alloc (below_drew (below_alloc (Below.refl _ _) _)) _ | exact below_alloc (Below.refl _ _) _ | (apply below_alloc; assumption))) hbb; have z6 : w2.heap.size < w6.heap.size := Nat.lt_of_lt_of_le (by (first | with_reducible assumption | exact Nat.lt_succ_self _ | (with_reducible apply la0) | (with_reducible apply la; (first | with_reducible assumption | with_reducible apply la0)) | (with_reducible apply ld; first | with_reducible assumption | (with_reducible apply la0) | (with_reducible apply la; (first | with_reducible assumption | with_reducible apply la0))) | (simp; done) | (simp; omega))) hbb.size; clear tok4)
      | (go_at_call 40; have _t := tok5; refine (mul2_c 3 0 3 0 ⟨2, 0, []⟩ ⟨1, 1, []⟩ ⟨2, 0, []⟩ ⟨1, 1, []⟩ _ _ A2 A4 c2 c4 _ (F_to (w := w4) hF4 (by (first | exact Below.refl _ _ | assumption | exact below_drew (Below.refl _ _) | exact below_drew (below_alloc (Below.refl _ _) _) | exact below_alloc (below_drew (below_alloc (Below.refl _ _) _)) _ | exact below_alloc (Below.refl _ _) _ | (apply below_alloc; assumption)))) hc2 (F_to (w := w6) hF6 (by (first | exact Below.refl _ _ | assumption | exact below_drew (Below.refl _ _) | exact below_drew (below_alloc (Below.refl _ _) _) | exact below_alloc (below_drew (below_alloc (Below.refl _ _) _)) _ | exact below_alloc (Below.refl _ _) _ | (apply below_alloc; assumption)))) hc4).mono ?_; rintro e w7 ⟨A5, c5, rfl, hc5, hF7, hbb⟩; have s7 := hbb.size; (first | have bx := box_new2 hbb | have bx := box_new hbb | have bx := box_kept hbb (by assumption) | have bx := True.intro); have q7 := bt (w := w2) (by (first | exact Below.refl _ _ | assumption | exact below_drew (Below.refl _ _) | exact below_drew (below_alloc (Below.refl _ _) _) | exact below_alloc (below_drew (below_alloc (Below.refl _ _) _)) _ | exact below_alloc (Below.refl _ _) _ | (apply below_alloc; assumption))) hbb; have z7 : w2.heap.size < w7.heap.size := Nat.lt_of_lt_of_le (by (first | with_reducible assumption | exact Nat.lt_succ_self _ | (with_reducible apply la0) | (with_reducible apply la; (first | with_reducible assumption | with_reducible apply la0)) | (with_reducible apply ld; first | with_reducible assumption | (with_reducible apply la0) | (with_reducible apply la; (first | with_reducible assumption | with_reducible apply la0))) | (simp; done) | (simp; omega))) hbb.size; clear tok5; (first | have b1 := box_all bx | have b1 := True.intro); (try go_split_ands)))
  all_goals go_wp2_with fail
  all_goals go_meet
  all_goals (case rel =>
    go_light
    rename_i hHeld
    refine ⟨rfl, ?_, ?_⟩
    · first | assumption | exact hHeld
    first
      | exact ⟨_, A5, c5, rfl, la0 _ _, blk_new _ _, hc5, Kd.C_below (Kd.F_now hF7) (below_alloc (Below.refl _ _) _), below_alloc q7 _, la z7⟩
      | (obtain ⟨bk, hlt⟩ : Box w7 _ 0 0 (.slice none 0 0) ∧ True := ⟨by assumption, trivial⟩
         refine ⟨_, A5, c5, rfl, ?_, box_set bk _ _ _, hc5, ?_, ?_, box_set_sz z7⟩
         · exact box_set_lt bk _ _ _
         · refine box_set_C hF7 ?_
           clear hF0 hF3 hF4 hF5 hF6 hF7
           intro k hk
           simp only [sz_alloc, sz_drew, false_or] at s3 s4 s5 s6 s7 hk ⊢
           omega
         · refine box_set_below q7 ?_
           clear hF0 hF3 hF4 hF5 hF6 hF7
           simp only [sz_alloc, sz_drew] at s3 s4 s5 s6 s7 ⊢
           omega))
end Go.Proofs.Ythkclagcbjnckaa.Pa


namespace Go.Proofs.Ythkclagcbjnckaa.Pa
open Go.RowKit Go.Proofs.YthkclagcbjnckaaW.PrintWords Go.Proofs.YthkclagcbjnckaaW.PrintLast Go.Proofs.YthkclagcbjnckaaW.PrintMore
attribute [local go_sem] max2_int min2_int max_two min_two max_three min_three max_four min_four
set_option linter.unusedVariables false
set_option linter.unusedSimpArgs false
def cmp_isNaN_int.f (a0 : Int) : Option (Bool) := some (a0 != a0)
set_option maxHeartbeats 8000000 in
set_option maxRecDepth 100000 in
theorem cmp_isNaN_int.calls (a0 : Int) (r : Bool) (w : World) (h : cmp_isNaN_int.f a0 = some r) :
  Calls Try.prog 118 #[.int .i64 a0] w fun e w' => e = .returned (.bool r) ∧ Drawn0 w w' := by
 have H : (some (a0 != a0)) = some r := h
 clear h
 obtain rfl := Option.some.inj H
 go_enter Try.func118, Try.ntmps118
 go_wp2
 go_ret
 exact ⟨by first | rfl | (simp; done) | (simp [*]; done), by repeat (first | exact Drawn0.refl _ | apply Drawn0.step)⟩
end Go.Proofs.Ythkclagcbjnckaa.Pa


namespace Go.Proofs.Ythkclagcbjnckaa.Pa
open Go.RowKit Go.Proofs.YthkclagcbjnckaaW.PrintWords Go.Proofs.YthkclagcbjnckaaW.PrintLast Go.Proofs.YthkclagcbjnckaaW.PrintMore
attribute [local go_sem] max2_int min2_int max_two min_two max_three min_three max_four min_four
set_option linter.unusedVariables false
set_option linter.unusedSimpArgs false
def cmp_Compare_int.f (a0 : Int) (a1 : Int) : Option (Int) := (cmp_isNaN_int.f a0).bind fun t214 => ((cmp_isNaN_int.f a1).bind fun t215 => (if t214 = true then (if t215 = true then (some 0) else (some (-1))) else (if t215 = true then (some 1) else (if a0 < a1 then (some (-1)) else (if a0 > a1 then (some 1) else (some 0))))))
set_option maxHeartbeats 8000000 in
set_option maxRecDepth 100000 in
theorem cmp_Compare_int.calls (a0 : Int) (a1 : Int) (r : Int) (w : World) (h : cmp_Compare_int.f a0 a1 = some r) :
  Calls Try.prog 99 #[.int .i64 a0, .int .i64 a1] w fun e w' => e = .returned (.int .i64 r) ∧ Drawn0 w w' := by
 have H : ((cmp_isNaN_int.f a0).bind fun t214 => ((cmp_isNaN_int.f a1).bind fun t215 => (if t214 = true then (if t215 = true then (some 0) else (some (-1))) else (if t215 = true then (some 1) else (if a0 < a1 then (some (-1)) else (if a0 > a1 then (some 1) else (some 0))))))) = some r := h
 clear h
 replace H := Option.bind_eq_some_iff.mp H
 obtain ⟨t214, A30, H⟩ := H
 replace H : ((cmp_isNaN_int.f a1).bind fun t215 => (if t214 = true then (if t215 = true then (some 0) else (some (-1))) else (if t215 = true then (some 1) else (if a0 < a1 then (some (-1)) else (if a0 > a1 then (some 1) else (some 0)))))) = some r := H
 have A3 := Aside0.mk A30
 clear A30
 replace H := Option.bind_eq_some_iff.mp H
 obtain ⟨t215, A40, H⟩ := H
 replace H : (if t214 = true then (if t215 = true then (some 0) else (some (-1))) else (if t215 = true then (some 1) else (if a0 < a1 then (some (-1)) else (if a0 > a1 then (some 1) else (some 0))))) = some r := H
 have A4 := Aside0.mk A40
 clear A40
 by_cases c5 : t214 = true
 ·subst c5
  have H1 : (if t215 = true then (some 0) else (some (-1))) = some r := by rw [if_pos rfl] at H; exact H
  clear H
  have H := H1
  clear H1
  by_cases c6 : t215 = true
  ·subst c6
   have H1 : (some 0) = some r := by rw [if_pos rfl] at H; exact H
   clear H
   have H := H1
   clear H1
   obtain rfl := Option.some.inj H
   go_enter Try.func99, Try.ntmps99
   go_wp2_with (first | ((with_reducible refine gate_callee (f := 118) rfl ?_); refine goesL_ (some 8) rfl rfl Try.func118 (by kernel_rfl) rfl #[.int .i64 a0] rfl (by (try simp only [List.map_toArray, List.map_cons, List.map_nil]); first | done | rfl | (simp only [List.length_drop, List.length_take]; rfl)) ?_; (with_reducible refine (cmp_isNaN_int.calls a0 true _ A3.out).mono ?_); rintro e w' ⟨rfl, ⟨nd, rfl⟩⟩; refine ⟨_, rfl, ?_⟩) | ((with_reducible refine gate_callee (f := 118) rfl ?_); refine goesL_ (some 10) rfl rfl Try.func118 (by kernel_rfl) rfl #[.int .i64 a1] rfl (by (try simp only [List.map_toArray, List.map_cons, List.map_nil]); first | done | rfl | (simp only [List.length_drop, List.length_take]; rfl)) ?_; (with_reducible refine (cmp_isNaN_int.calls a1 true _ A4.out).mono ?_); rintro e w' ⟨rfl, ⟨nd, rfl⟩⟩; refine ⟨_, rfl, ?_⟩))
   go_ret
   exact ⟨by first | rfl | (simp; done) | (simp [*]; done), by repeat (first | exact Drawn0.refl _ | apply Drawn0.step)⟩
  ·replace c6 := Bool.eq_false_iff.mpr c6
   subst c6
   have H1 : (some (-1)) = some r := by rw [if_neg (show ¬ (false = true) by decide)] at H; exact H
   clear H
   have H := H1
   clear H1
   obtain rfl := Option.some.inj H
   go_enter Try.func99, Try.ntmps99
   go_wp2_with (first | ((with_reducible refine gate_callee (f := 118) rfl ?_); refine goesL_ (some 8) rfl rfl Try.func118 (by kernel_rfl) rfl #[.int .i64 a0] rfl (by (try simp only [List.map_toArray, List.map_cons, List.map_nil]); first | done | rfl | (simp only [List.length_drop, List.length_take]; rfl)) ?_; (with_reducible refine (cmp_isNaN_int.calls a0 true _ A3.out).mono ?_); rintro e w' ⟨rfl, ⟨nd, rfl⟩⟩; refine ⟨_, rfl, ?_⟩) | ((with_reducible refine gate_callee (f := 118) rfl ?_); refine goesL_ (some 10) rfl rfl Try.func118 (by kernel_rfl) rfl #[.int .i64 a1] rfl (by (try simp only [List.map_toArray, List.map_cons, List.map_nil]); first | done | rfl | (simp only [List.length_drop, List.length_take]; rfl)) ?_; (with_reducible refine (cmp_isNaN_int.calls a1 false _ A4.out).mono ?_); rintro e w' ⟨rfl, ⟨nd, rfl⟩⟩; refine ⟨_, rfl, ?_⟩))
   go_ret
   exact ⟨by first | rfl | (simp; done) | (simp [*]; done), by repeat (first | exact Drawn0.refl _ | apply Drawn0.step)⟩
 ·replace c5 := Bool.eq_false_iff.mpr c5
  subst c5
  have H1 : (if t215 = true then (some 1) else (if a0 < a1 then (some (-1)) else (if a0 > a1 then (some 1) else (some 0)))) = some r := by rw [if_neg (show ¬ (false = true) by decide)] at H; exact H
  clear H
  have H := H1
  clear H1
  by_cases c7 : t215 = true
  ·subst c7
   have H1 : (some 1) = some r := by rw [if_pos rfl] at H; exact H
   clear H
   have H := H1
   clear H1
   obtain rfl := Option.some.inj H
   go_enter Try.func99, Try.ntmps99
   go_wp2_with (first | ((with_reducible refine gate_callee (f := 118) rfl ?_); refine goesL_ (some 8) rfl rfl Try.func118 (by kernel_rfl) rfl #[.int .i64 a0] rfl (by (try simp only [List.map_toArray, List.map_cons, List.map_nil]); first | done | rfl | (simp only [List.length_drop, List.length_take]; rfl)) ?_; (with_reducible refine (cmp_isNaN_int.calls a0 false _ A3.out).mono ?_); rintro e w' ⟨rfl, ⟨nd, rfl⟩⟩; refine ⟨_, rfl, ?_⟩) | ((with_reducible refine gate_callee (f := 118) rfl ?_); refine goesL_ (some 10) rfl rfl Try.func118 (by kernel_rfl) rfl #[.int .i64 a1] rfl (by (try simp only [List.map_toArray, List.map_cons, List.map_nil]); first | done | rfl | (simp only [List.length_drop, List.length_take]; rfl)) ?_; (with_reducible refine (cmp_isNaN_int.calls a1 true _ A4.out).mono ?_); rintro e w' ⟨rfl, ⟨nd, rfl⟩⟩; refine ⟨_, rfl, ?_⟩))
   go_ret
   exact ⟨by first | rfl | (simp; done) | (simp [*]; done), by repeat (first | exact Drawn0.refl _ | apply Drawn0.step)⟩
  ·replace c7 := Bool.eq_false_iff.mpr c7
   subst c7
   have H1 : (if a0 < a1 then (some (-1)) else (if a0 > a1 then (some 1) else (some 0))) = some r := by rw [if_neg (show ¬ (false = true) by decide)] at H; exact H
   clear H
   have H := H1
   clear H1
   by_cases c8 : a0 < a1
   ·rw [if_pos c8] at H
    have c8b0 : decide (a0 < a1) = true := decide_eq_true c8
    clear c8
    obtain rfl := Option.some.inj H
    go_enter Try.func99, Try.ntmps99
    go_wp2_with (first | ((with_reducible refine gate_callee (f := 118) rfl ?_); refine goesL_ (some 8) rfl rfl Try.func118 (by kernel_rfl) rfl #[.int .i64 a0] rfl (by (try simp only [List.map_toArray, List.map_cons, List.map_nil]); first | done | rfl | (simp only [List.length_drop, List.length_take]; rfl)) ?_; (with_reducible refine (cmp_isNaN_int.calls a0 false _ A3.out).mono ?_); rintro e w' ⟨rfl, ⟨nd, rfl⟩⟩; refine ⟨_, rfl, ?_⟩) | ((with_reducible refine gate_callee (f := 118) rfl ?_); refine goesL_ (some 10) rfl rfl Try.func118 (by kernel_rfl) rfl #[.int .i64 a1] rfl (by (try simp only [List.map_toArray, List.map_cons, List.map_nil]); first | done | rfl | (simp only [List.length_drop, List.length_take]; rfl)) ?_; (with_reducible refine (cmp_isNaN_int.calls a1 false _ A4.out).mono ?_); rintro e w' ⟨rfl, ⟨nd, rfl⟩⟩; refine ⟨_, rfl, ?_⟩))
    go_ret
    exact ⟨by first | rfl | (simp; done) | (simp [*]; done), by repeat (first | exact Drawn0.refl _ | apply Drawn0.step)⟩
   ·rw [if_neg c8] at H
    have c8b0 : decide (a0 < a1) = false := decide_eq_false c8
    clear c8
    by_cases c9 : a0 > a1
    ·rw [if_pos c9] at H
     have c9b0 : decide (a1 < a0) = true := decide_eq_true c9
     clear c9
     obtain rfl := Option.some.inj H
     go_enter Try.func99, Try.ntmps99
     go_wp2_with (first | ((with_reducible refine gate_callee (f := 118) rfl ?_); refine goesL_ (some 8) rfl rfl Try.func118 (by kernel_rfl) rfl #[.int .i64 a0] rfl (by (try simp only [List.map_toArray, List.map_cons, List.map_nil]); first | done | rfl | (simp only [List.length_drop, List.length_take]; rfl)) ?_; (with_reducible refine (cmp_isNaN_int.calls a0 false _ A3.out).mono ?_); rintro e w' ⟨rfl, ⟨nd, rfl⟩⟩; refine ⟨_, rfl, ?_⟩) | ((with_reducible refine gate_callee (f := 118) rfl ?_); refine goesL_ (some 10) rfl rfl Try.func118 (by kernel_rfl) rfl #[.int .i64 a1] rfl (by (try simp only [List.map_toArray, List.map_cons, List.map_nil]); first | done | rfl | (simp only [List.length_drop, List.length_take]; rfl)) ?_; (with_reducible refine (cmp_isNaN_int.calls a1 false _ A4.out).mono ?_); rintro e w' ⟨rfl, ⟨nd, rfl⟩⟩; refine ⟨_, rfl, ?_⟩))
     go_ret
     exact ⟨by first | rfl | (simp; done) | (simp [*]; done), by repeat (first | exact Drawn0.refl _ | apply Drawn0.step)⟩
    ·rw [if_neg c9] at H
     have c9b0 : decide (a1 < a0) = false := decide_eq_false c9
     clear c9
     obtain rfl := Option.some.inj H
     go_enter Try.func99, Try.ntmps99
     go_wp2_with (first | ((with_reducible refine gate_callee (f := 118) rfl ?_); refine goesL_ (some 8) rfl rfl Try.func118 (by kernel_rfl) rfl #[.int .i64 a0] rfl (by (try simp only [List.map_toArray, List.map_cons, List.map_nil]); first | done | rfl | (simp only [List.length_drop, List.length_take]; rfl)) ?_; (with_reducible refine (cmp_isNaN_int.calls a0 false _ A3.out).mono ?_); rintro e w' ⟨rfl, ⟨nd, rfl⟩⟩; refine ⟨_, rfl, ?_⟩) | ((with_reducible refine gate_callee (f := 118) rfl ?_); refine goesL_ (some 10) rfl rfl Try.func118 (by kernel_rfl) rfl #[.int .i64 a1] rfl (by (try simp only [List.map_toArray, List.map_cons, List.map_nil]); first | done | rfl | (simp only [List.length_drop, List.length_take]; rfl)) ?_; (with_reducible refine (cmp_isNaN_int.calls a1 false _ A4.out).mono ?_); rintro e w' ⟨rfl, ⟨nd, rfl⟩⟩; refine ⟨_, rfl, ?_⟩))
     go_ret
     exact ⟨by first | rfl | (simp; done) | (simp [*]; done), by repeat (first | exact Drawn0.refl _ | apply Drawn0.step)⟩
end Go.Proofs.Ythkclagcbjnckaa.Pa


namespace Go.Proofs.Ythkclagcbjnckaa.Pa
open Go.RowKit Go.Proofs.YthkclagcbjnckaaW.PrintWords Go.Proofs.YthkclagcbjnckaaW.PrintLast Go.Proofs.YthkclagcbjnckaaW.PrintMore
attribute [local go_sem] max2_int min2_int max_two min_two max_three min_three max_four min_four
set_option linter.unusedVariables false
set_option linter.unusedSimpArgs false
def slices_Compare_int_int.l0 : Nat → List Int → List Int → List Int → Int → Int → Option (Int)
 | 0, _, _, _, _, _ => none
 | k + 1, x0, x1, x9, x10, x11 => if x11 < x10 then (if 0 ≤ x11 then (if x11 < (x9.length : Int) then (if x11 ≥ (x1.length : Int) then (some 1) else (if x11 < (x1.length : Int) then ((cmp_Compare_int.f (rd x9 x11) (rd x1 x11)).bind fun t218 => (if t218 = 0 then (slices_Compare_int_int.l0 k x0 x1 x9 x10 (wrap64 (x11 + 1))) else (some t218))) else (none))) else (none)) else (none)) else (if (x0.length : Int) < (x1.length : Int) then (some (-1)) else (some 0))
def slices_Compare_int_int.f (k : Nat) (l0 : List Int) (l1 : List Int) : Option (Int) := slices_Compare_int_int.l0 k l0 l1 l0 (l0.length : Int) 0
set_option maxHeartbeats 8000000 in
set_option maxRecDepth 100000 in
theorem slices_Compare_int_int.calls (k : Nat) (A0 : Option Addr) (c0 : Nat) (l0 : List Int) (A1 : Option Addr) (c1 : Nat) (l1 : List Int) (r : Int) (w : World) (hr0 : Kd.C (Kd.int .i64) w A0 l0.length l0) (hc0 : l0.length ≤ c0) (hr1 : Kd.C (Kd.int .i64) w A1 l1.length l1) (hc1 : l1.length ≤ c1) (h : slices_Compare_int_int.f k l0 l1 = some r) :
  Calls Try.prog 80 #[.slice A0 l0.length c0, .slice A1 l1.length c1] w fun e w' => e = .returned (.int .i64 r) ∧ Drawn0 w w' := by
 have HR0 := Aside0.mk hr0
 have HC0 := Aside0.mk hc0
 clear hr0 hc0
 have HR1 := Aside0.mk hr1
 have HC1 := Aside0.mk hc1
 clear hr1 hc1
 have H : (slices_Compare_int_int.l0 k l0 l1 l0 (l0.length : Int) 0) = some r := h
 clear h
 have H' := Aside0.mk H
 clear H
 go_enter Try.func80, Try.ntmps80
 go_wp2
 go_loopg [11] k (fun kq v11 w' => ∃ (x11_1 : Int), v11 = .int .i64 x11_1 ∧ Aside0 (slices_Compare_int_int.l0 kq l0 l1 l0 (l0.length : Int) x11_1 = some r) ∧ Aside0 (kq ≤ k) ∧ Drawn0 w w')
 case atStart => exact ⟨(0), (by first | rfl | (simp; done) | (simp [*]; done)), H', ⟨Nat.le_refl _⟩, by repeat (first | exact Drawn0.refl _ | apply Drawn0.step)⟩
 case round =>
  clear H'
  try clear c1
  try clear p2
  obtain ⟨x11_1, rfl, HA, HK1, ⟨m1, rfl⟩⟩ := hrel
  cases gk with
  | zero => exact absurd HA.out (by simp [slices_Compare_int_int.l0])
  | succ k1 =>
   have H := HA.out
   clear HA
   simp only [slices_Compare_int_int.l0] at H
   by_cases c3 : x11_1 < (l0.length : Int)
   ·rw [if_pos c3] at H
    have c3b0 : decide (x11_1 < (l0.length : Int)) = true := decide_eq_true c3
    clear c3
    by_cases c4 : 0 ≤ x11_1
    ·rw [if_pos c4] at H
     have c4b0 : decide (0 ≤ x11_1) = true := decide_eq_true c4
     clear c4
     by_cases c5 : x11_1 < (l0.length : Int)
     ·rw [if_pos c5] at H
      have c5b0 : decide (x11_1 < (l0.length : Int)) = true := decide_eq_true c5
      clear c5
      by_cases c6 : x11_1 ≥ (l1.length : Int)
      ·rw [if_pos c6] at H
       have c6b0 : decide ((l1.length : Int) ≤ x11_1) = true := decide_eq_true c6
       clear c6
       obtain rfl := Option.some.inj H
       have p216 : 0 ≤ (x11_1 : Int) := of_decide_eq_true (by first | (with_reducible assumption) | assumption)
       have q216 : x11_1 < (l0.length : Int) := of_decide_eq_true (by first | (with_reducible assumption) | assumption)
       obtain ⟨ad216, e216, hx216_0⟩ := Kd.at_int HR0.out x11_1 p216 q216
       cases e216
       replace p216 := eq_true p216
       replace q216 := eq_true q216
       go_wp2
       go_ret
       exact ⟨by first | rfl | (simp; done) | (simp [*]; done), by repeat (first | exact Drawn0.refl _ | apply Drawn0.step)⟩
      ·rw [if_neg c6] at H
       have c6b0 : decide ((l1.length : Int) ≤ x11_1) = false := decide_eq_false c6
       clear c6
       by_cases c7 : x11_1 < (l1.length : Int)
       ·rw [if_pos c7] at H
        have c7b0 : decide (x11_1 < (l1.length : Int)) = true := decide_eq_true c7
        clear c7
        replace H := Option.bind_eq_some_iff.mp H
        obtain ⟨t218, A80, H⟩ := H
        replace H : (if t218 = 0 then (slices_Compare_int_int.l0 k1 l0 l1 l0 (l0.length : Int) (wrap64 (x11_1 + 1))) else (some t218)) = some r := H
        have A8 := Aside0.mk A80
        clear A80
        by_cases c9 : t218 = 0
        ·rw [if_pos c9] at H
         have c9b0 : (t218 == 0) = true := beq_iff_eq.mpr c9
         have c9b1 : (t218 != 0) = false := bne_eq_false_iff_eq.mpr c9
         clear c9
         have H' := Aside0.mk H
         clear H
         have p216 : 0 ≤ (x11_1 : Int) := of_decide_eq_true (by first | (with_reducible assumption) | assumption)
         have q216 : x11_1 < (l0.length : Int) := of_decide_eq_true (by first | (with_reducible assumption) | assumption)
         obtain ⟨ad216, e216, hx216_0⟩ := Kd.at_int HR0.out x11_1 p216 q216
         cases e216
         replace p216 := eq_true p216
         replace q216 := eq_true q216
         have p217 : 0 ≤ (x11_1 : Int) := of_decide_eq_true (by first | (with_reducible assumption) | assumption)
         have q217 : x11_1 < (l1.length : Int) := of_decide_eq_true (by first | (with_reducible assumption) | assumption)
         obtain ⟨ad217, e217, hx217_0⟩ := Kd.at_int HR1.out x11_1 p217 q217
         cases e217
         replace p217 := eq_true p217
         replace q217 := eq_true q217
         go_wp2_with (first | ((with_reducible refine gate_callee (f := 99) rfl ?_); refine goesL_ (some 26) rfl rfl Try.func99 (by kernel_rfl) rfl #[.int .i64 (rd l0 x11_1), .int .i64 (rd l1 x11_1)] rfl (by (try simp only [List.map_toArray, List.map_cons, List.map_nil]); first | done | rfl | (simp only [List.length_drop, List.length_take]; rfl)) ?_; (with_reducible refine (cmp_Compare_int.calls (rd l0 x11_1) (rd l1 x11_1) t218 _ A8.out).mono ?_); rintro e w' ⟨rfl, ⟨nd, rfl⟩⟩; refine ⟨_, rfl, ?_⟩))
         go_roundg k1
         case measure => have := HK1.out; omega
         case rel => exact ⟨(wrap64 (x11_1 + 1)), (by first | rfl | (simp; done) | (simp [*]; done)), H', ⟨by have := HK1.out; omega⟩, by repeat (first | exact Drawn0.refl _ | apply Drawn0.step)⟩
        ·rw [if_neg c9] at H
         have c9b0 : (t218 == 0) = false := beq_eq_false_iff_ne.mpr c9
         have c9b1 : (t218 != 0) = true := bne_iff_ne.mpr c9
         obtain rfl := Option.some.inj H
         have p216 : 0 ≤ (x11_1 : Int) := of_decide_eq_true (by first | (with_reducible assumption) | assumption)
         have q216 : x11_1 < (l0.length : Int) := of_decide_eq_true (by first | (with_reducible assumption) | assumption)
         obtain ⟨ad216, e216, hx216_0⟩ := Kd.at_int HR0.out x11_1 p216 q216
         cases e216
         replace p216 := eq_true p216
         replace q216 := eq_true q216
         have p217 : 0 ≤ (x11_1 : Int) := of_decide_eq_true (by first | (with_reducible assumption) | assumption)
         have q217 : x11_1 < (l1.length : Int) := of_decide_eq_true (by first | (with_reducible assumption) | assumption)
         obtain ⟨ad217, e217, hx217_0⟩ := Kd.at_int HR1.out x11_1 p217 q217
         cases e217
         replace p217 := eq_true p217
         replace q217 := eq_true q217
         go_wp2_with (first | ((with_reducible refine gate_callee (f := 99) rfl ?_); refine goesL_ (some 26) rfl rfl Try.func99 (by kernel_rfl) rfl #[.int .i64 (rd l0 x11_1), .int .i64 (rd l1 x11_1)] rfl (by (try simp only [List.map_toArray, List.map_cons, List.map_nil]); first | done | rfl | (simp only [List.length_drop, List.length_take]; rfl)) ?_; (with_reducible refine (cmp_Compare_int.calls (rd l0 x11_1) (rd l1 x11_1) t218 _ A8.out).mono ?_); rintro e w' ⟨rfl, ⟨nd, rfl⟩⟩; refine ⟨_, rfl, ?_⟩))
         go_ret
         exact ⟨by first | rfl | (simp; done) | (simp [*]; done), by repeat (first | exact Drawn0.refl _ | apply Drawn0.step)⟩
       ·rw [if_neg c7] at H
        exact absurd H (by simp)
     ·rw [if_neg c5] at H
      exact absurd H (by simp)
    ·rw [if_neg c4] at H
     exact absurd H (by simp)
   ·rw [if_neg c3] at H
    have c3b0 : decide (x11_1 < (l0.length : Int)) = false := decide_eq_false c3
    clear c3
    by_cases c10 : (l0.length : Int) < (l1.length : Int)
    ·rw [if_pos c10] at H
     have c10b0 : decide ((l0.length : Int) < (l1.length : Int)) = true := decide_eq_true c10
     have c10b1 : decide (l0.length < l1.length) = true := decide_eq_true (Int.ofNat_lt.mp c10)
     clear c10
     obtain rfl := Option.some.inj H
     go_wp2
     go_ret
     exact ⟨by first | rfl | (simp; done) | (simp [*]; done), by repeat (first | exact Drawn0.refl _ | apply Drawn0.step)⟩
    ·rw [if_neg c10] at H
     have c10b0 : decide ((l0.length : Int) < (l1.length : Int)) = false := decide_eq_false c10
     have c10b1 : decide (l0.length < l1.length) = false := decide_eq_false (fun h => c10 (Int.ofNat_lt.mpr h))
     clear c10
     obtain rfl := Option.some.inj H
     go_wp2
     go_ret
     exact ⟨by first | rfl | (simp; done) | (simp [*]; done), by repeat (first | exact Drawn0.refl _ | apply Drawn0.step)⟩
end Go.Proofs.Ythkclagcbjnckaa.Pa


namespace Go.Proofs.Ythkclagcbjnckaa.Pa
open Go.RowKit Go.Proofs.YthkclagcbjnckaaW.PrintWords Go.Proofs.YthkclagcbjnckaaW.PrintLast Go.Proofs.YthkclagcbjnckaaW.PrintMore
attribute [local go_sem] max2_int min2_int max_two min_two max_three min_three max_four min_four
set_option linter.unusedVariables false
set_option linter.unusedSimpArgs false
def tenetref24_less.l0 : Nat → List Int → List Int → Int → Option (Bool)
 | 0, _, _, _ => none
 | k + 1, x0, x1, x5 => if x5 < 8 then (if 0 ≤ x5 then (if x5 < (x0.length : Int) then (if x5 < (x1.length : Int) then (if (rd x0 x5) = (rd x1 x5) then (tenetref24_less.l0 k x0 x1 (wrap64 (x5 + 1))) else (some (decide ((rd x0 x5) > (rd x1 x5))))) else (none)) else (none)) else (none)) else (some false)
def tenetref24_less.f (k : Nat) (l0 : List Int) (l1 : List Int) : Option (Bool) := tenetref24_less.l0 k l0 l1 0
set_option maxHeartbeats 8000000 in
set_option maxRecDepth 100000 in
theorem tenetref24_less.calls (k : Nat) (A0 : Option Addr) (c0 : Nat) (l0 : List Int) (A1 : Option Addr) (c1 : Nat) (l1 : List Int) (r : Bool) (w : World) (hr0 : Kd.C (Kd.int .i64) w A0 l0.length l0) (hc0 : l0.length ≤ c0) (hr1 : Kd.C (Kd.int .i64) w A1 l1.length l1) (hc1 : l1.length ≤ c1) (h : tenetref24_less.f k l0 l1 = some r) :
  Calls Try.prog 81 #[.slice A0 l0.length c0, .slice A1 l1.length c1] w fun e w' => e = .returned (.bool r) ∧ Drawn0 w w' := by
 have HR0 := Aside0.mk hr0
 have HC0 := Aside0.mk hc0
 clear hr0 hc0
 have HR1 := Aside0.mk hr1
 have HC1 := Aside0.mk hc1
 clear hr1 hc1
 have H : (tenetref24_less.l0 k l0 l1 0) = some r := h
 clear h
 have H' := Aside0.mk H
 clear H
 go_enter Try.func81, Try.ntmps81
 go_wp2
 repeat (go_quiet (fail); try go_wp2)
 go_loopg [5] k (fun kq v5 w' => ∃ (x5_1 : Int), v5 = .int .i64 x5_1 ∧ Aside0 (tenetref24_less.l0 kq l0 l1 x5_1 = some r) ∧ Aside0 (kq ≤ k) ∧ Drawn0 w w')
 case atStart => exact ⟨(0), (by first | rfl | (simp; done) | (simp [*]; done)), H', ⟨Nat.le_refl _⟩, by repeat (first | exact Drawn0.refl _ | apply Drawn0.step)⟩
 case round =>
  clear H'
  try clear c1
  try clear p2
  obtain ⟨x5_1, rfl, HA, HK1, ⟨m1, rfl⟩⟩ := hrel
  cases gk with
  | zero => exact absurd HA.out (by simp [tenetref24_less.l0])
  | succ k1 =>
   have H := HA.out
   clear HA
   simp only [tenetref24_less.l0] at H
   by_cases c3 : x5_1 < 8
   ·rw [if_pos c3] at H
    have c3b0 : decide (x5_1 < 8) = true := decide_eq_true c3
    clear c3
    by_cases c4 : 0 ≤ x5_1
    ·rw [if_pos c4] at H
     have c4b0 : decide (0 ≤ x5_1) = true := decide_eq_true c4
     clear c4
     by_cases c5 : x5_1 < (l0.length : Int)
     ·rw [if_pos c5] at H
      have c5b0 : decide (x5_1 < (l0.length : Int)) = true := decide_eq_true c5
      clear c5
      by_cases c6 : x5_1 < (l1.length : Int)
      ·rw [if_pos c6] at H
       have c6b0 : decide (x5_1 < (l1.length : Int)) = true := decide_eq_true c6
       clear c6
       by_cases c7 : (rd l0 x5_1) = (rd l1 x5_1)
       ·rw [if_pos c7] at H
        have c7b0 : ((rd l0 x5_1) == (rd l1 x5_1)) = true := beq_iff_eq.mpr c7
        have c7b1 : ((rd l0 x5_1) != (rd l1 x5_1)) = false := bne_eq_false_iff_eq.mpr c7
        clear c7
        have H' := Aside0.mk H
        clear H
        have p227 : 0 ≤ (x5_1 : Int) := of_decide_eq_true (by first | (with_reducible assumption) | assumption)
        have q227 : x5_1 < (l0.length : Int) := of_decide_eq_true (by first | (with_reducible assumption) | assumption)
        obtain ⟨ad227, e227, hx227_0⟩ := Kd.at_int HR0.out x5_1 p227 q227
        cases e227
        replace p227 := eq_true p227
        replace q227 := eq_true q227
        have p228 : 0 ≤ (x5_1 : Int) := of_decide_eq_true (by first | (with_reducible assumption) | assumption)
        have q228 : x5_1 < (l1.length : Int) := of_decide_eq_true (by first | (with_reducible assumption) | assumption)
        obtain ⟨ad228, e228, hx228_0⟩ := Kd.at_int HR1.out x5_1 p228 q228
        cases e228
        replace p228 := eq_true p228
        replace q228 := eq_true q228
        go_wp2
        repeat (go_quiet (fail); try go_wp2)
        go_roundg k1
        case measure => have := HK1.out; omega
        case rel => exact ⟨(wrap64 (x5_1 + 1)), (by first | rfl | (simp; done) | (simp [*]; done)), H', ⟨by have := HK1.out; omega⟩, by repeat (first | exact Drawn0.refl _ | apply Drawn0.step)⟩
       ·rw [if_neg c7] at H
        have c7b0 : ((rd l0 x5_1) == (rd l1 x5_1)) = false := beq_eq_false_iff_ne.mpr c7
        have c7b1 : ((rd l0 x5_1) != (rd l1 x5_1)) = true := bne_iff_ne.mpr c7
        obtain rfl := Option.some.inj H
        have p227 : 0 ≤ (x5_1 : Int) := of_decide_eq_true (by first | (with_reducible assumption) | assumption)
        have q227 : x5_1 < (l0.length : Int) := of_decide_eq_true (by first | (with_reducible assumption) | assumption)
        obtain ⟨ad227, e227, hx227_0⟩ := Kd.at_int HR0.out x5_1 p227 q227
        cases e227
        replace p227 := eq_true p227
        replace q227 := eq_true q227
        have p228 : 0 ≤ (x5_1 : Int) := of_decide_eq_true (by first | (with_reducible assumption) | assumption)
        have q228 : x5_1 < (l1.length : Int) := of_decide_eq_true (by first | (with_reducible assumption) | assumption)
        obtain ⟨ad228, e228, hx228_0⟩ := Kd.at_int HR1.out x5_1 p228 q228
        cases e228
        replace p228 := eq_true p228
        replace q228 := eq_true q228
        have p229 : 0 ≤ (x5_1 : Int) := of_decide_eq_true (by first | (with_reducible assumption) | assumption)
        have q229 : x5_1 < (l0.length : Int) := of_decide_eq_true (by first | (with_reducible assumption) | assumption)
        obtain ⟨ad229, e229, hx229_0⟩ := Kd.at_int HR0.out x5_1 p229 q229
        obtain rfl : ad227 = ad229 := (by injection e229)
        replace p229 := eq_true p229
        replace q229 := eq_true q229
        have p230 : 0 ≤ (x5_1 : Int) := of_decide_eq_true (by first | (with_reducible assumption) | assumption)
        have q230 : x5_1 < (l1.length : Int) := of_decide_eq_true (by first | (with_reducible assumption) | assumption)
        obtain ⟨ad230, e230, hx230_0⟩ := Kd.at_int HR1.out x5_1 p230 q230
        obtain rfl : ad228 = ad230 := (by injection e230)
        replace p230 := eq_true p230
        replace q230 := eq_true q230
        go_wp2
        repeat (go_quiet (fail); try go_wp2)
        go_ret
        exact ⟨by first | rfl | (simp; done) | (simp [*]; done), by repeat (first | exact Drawn0.refl _ | apply Drawn0.step)⟩
      ·rw [if_neg c6] at H
       exact absurd H (by simp)
     ·rw [if_neg c5] at H
      exact absurd H (by simp)
    ·rw [if_neg c4] at H
     exact absurd H (by simp)
   ·rw [if_neg c3] at H
    have c3b0 : decide (x5_1 < 8) = false := decide_eq_false c3
    clear c3
    obtain rfl := Option.some.inj H
    go_wp2
    repeat (go_quiet (fail); try go_wp2)
    go_ret
    exact ⟨by first | rfl | (simp; done) | (simp [*]; done), by repeat (first | exact Drawn0.refl _ | apply Drawn0.step)⟩
end Go.Proofs.Ythkclagcbjnckaa.Pa

