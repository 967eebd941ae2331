import Derived.Lib.SliceRun
import Derived.Shelf.SlSortCmp.WholeK
import Derived.Test.YthkclagcbjnckaaProg
import Derived.Shelf.SlSortCmp.NoneTotal
import Derived.Deep.SlicePairs
import Derived.ChangeSlices
import Derived.SizedLaws
import Derived.Test.YthkclagcbjnckaaJN3
set_option linter.unusedVariables false
set_option linter.unusedSimpArgs false
namespace Go.Proofs.Ythkclagcbjnckaa.Pa
open Go.RowKit Go.Proofs.YthkclagcbjnckaaW.PrintWords Go.Proofs.YthkclagcbjnckaaW.PrintLast Go.Proofs.YthkclagcbjnckaaW.PrintMore
set_option linter.unusedVariables false
def pm (l : List S60) : Po := l.map pairOf
theorem pm_append (a b : List S60) : pm (a ++ b) = pm a ++ pm b := by simp [pm]
theorem pm_length (a : List S60) : (pm a).length = a.length := by simp [pm]
theorem addM_skip (xs : List Int) (c : Int) (p2 : Po) : ∀ (p1 : Po), (∀ m ∈ p1, m.1 ≠ xs) → addM xs c (p1 ++ p2) = p1 ++ addM xs c p2
  | [], _ => rfl
  | m :: r, h => by
    rw [List.cons_append, addM, if_neg (h m (by simp)), addM_skip xs c p2 r (fun x hx => h x (by simp [hx]))]
    rfl
theorem addM_new {xs : List Int} {c : Int} {p : Po} (h : ∀ m ∈ p, m.1 ≠ xs) : addM xs c p = p ++ [(xs, c)] := by
  have := addM_skip xs c [] p h
  rwa [List.append_nil] at this
theorem nodupK_left {p q : Po} (h : nodupK (p ++ q)) : nodupK p := (List.pairwise_append.1 h).1
theorem sumL_self (p : Po) : nodupK p → sumL p = p := by
  refine snoc_ind (P := fun p => nodupK p → sumL p = p) (fun _ => rfl) ?_ p
  intro l m ih h
  rw [sumL_snoc, ih (nodupK_left h)]
  exact addM_new (fun x hx => (List.pairwise_append.1 h).2.2 x hx m (by simp))
theorem addM_perm {p q : Po} (h : p.Perm q) (hp : nodupK p) (hq : nodupK q) (xs : List Int) (c : Int) : (addM xs c p).Perm (addM xs c q) := by
  have e : ∀ r : Po, nodupK r → addM xs c r = sumL (r ++ [(xs, c)]) := fun r hr => by rw [sumL_snoc, sumL_self r hr]
  rw [e p hp, e q hq]
  exact sumL_perm (h.append_right _)
theorem sorted_nodup {l : List S60} (h : SortedM l) : nodupK (pm l) := by
  unfold nodupK pm
  rw [List.pairwise_map]
  exact List.Pairwise.imp (fun hab => lexC_ne hab) h
def IntoPost (m : S60) (l : List S60) : Option (List S60) → Prop
  | some l' => SortedM l' ∧ (pm l').Perm (addM m.f1 m.f0 (pm l)) ∧ (∀ z : List Int, lexC z m.f1 > 0 → (∀ x ∈ l, lexC z x.f1 > 0) → ∀ x ∈ l', lexC z x.f1 > 0) ∧ (okC (pm l) → m.f0 ≤ 1000000000000000 → okC (pm l')) ∧ l'.length ≤ l.length + 1
  | none => ∃ v, (m.f1, v) ∈ addM m.f1 m.f0 (pm l) ∧ 1000000000000000 < v
theorem into_po (m : S60) : ∀ l : List S60, SortedM l → IntoPost m l (intoL m l)
  | [], _ => by
    refine ⟨by simp [SortedM], List.Perm.refl _, fun z hz _ x hx => ?_, fun _ hm x hx => ?_, by simp⟩
    · rw [List.mem_singleton] at hx; subst hx; exact hz
    · simp [pm] at hx; subst hx; exact hm
  | x :: r, h => by
    obtain ⟨h1, h2⟩ := List.pairwise_cons.1 h
    have ih := into_po m r h2
    rw [intoL]
    have epm : pm (x :: r) = pairOf x :: pm r := rfl
    by_cases hg : lexC x.f1 m.f1 > 0
    · rw [if_pos hg]
      have hk : (pairOf x).1 ≠ m.f1 := lexC_ne hg
      have ea : addM m.f1 m.f0 (pm (x :: r)) = pairOf x :: addM m.f1 m.f0 (pm r) := by rw [epm, addM, if_neg hk]
      cases hr : intoL m r with
      | none =>
        rw [hr] at ih
        obtain ⟨v, hv, hb⟩ := ih
        exact ⟨v, by rw [ea]; exact List.mem_cons_of_mem _ hv, hb⟩
      | some l' =>
        rw [hr] at ih
        obtain ⟨a1, a2, a3, a4, a5⟩ := ih
        refine ⟨List.pairwise_cons.2 ⟨a3 x.f1 hg h1, a1⟩, ?_, fun z hz hzl y hy => ?_, fun hc hm y hy => ?_, by simpa using a5⟩
        · rw [ea]; exact List.Perm.cons _ a2
        · rcases List.mem_cons.1 hy with rfl | hy
          · exact hzl _ (by simp)
          · exact a3 z hz (fun y hy => hzl y (by simp [hy])) y hy
        · rcases List.mem_cons.1 (show y ∈ pairOf x :: pm l' from hy) with rfl | hy
          · exact hc _ (by rw [epm]; simp)
          · exact a4 (fun q hq => hc q (by rw [epm]; simp [hq])) hm y hy
    · rw [if_neg hg]
      by_cases he : x.f1 = m.f1
      · rw [if_pos he]
        have ea : addM m.f1 m.f0 (pm (x :: r)) = (m.f1, x.f0 + m.f0) :: pm r := by rw [epm, addM, if_pos (show (pairOf x).1 = m.f1 from he)]; rfl
        by_cases hb : x.f0 > 1000000000000000 - m.f0
        · rw [if_pos hb]
          exact ⟨x.f0 + m.f0, by rw [ea]; simp, by omega⟩
        · rw [if_neg hb]
          refine ⟨List.pairwise_cons.2 ⟨h1, h2⟩, ?_, fun z hz hzl y hy => ?_, fun hc hm y hy => ?_, by simp⟩
          · rw [ea, ← he]; exact List.Perm.refl _
          · rcases List.mem_cons.1 hy with rfl | hy
            · exact hzl x (by simp)
            · exact hzl y (by simp [hy])
          · rcases List.mem_cons.1 (show y ∈ (x.f1, x.f0 + m.f0) :: pm r from hy) with rfl | hy
            · show x.f0 + m.f0 ≤ _; omega
            · exact hc y (by rw [epm]; simp [hy])
      · rw [if_neg he]
        have hm1 : lexC m.f1 x.f1 > 0 := lexC_tri hg he
        have hm2 : ∀ y ∈ x :: r, lexC m.f1 y.f1 > 0 := fun y hy => by
          rcases List.mem_cons.1 hy with rfl | hy
          · exact hm1
          · exact lexC_trans hm1 (h1 y hy)
        have ea : addM m.f1 m.f0 (pm (x :: r)) = pm (x :: r) ++ [(m.f1, m.f0)] := addM_new (fun q hq => by
          obtain ⟨y, hy, rfl⟩ := List.mem_map.1 hq
          exact (lexC_ne (hm2 y hy)).symm)
        refine ⟨List.pairwise_cons.2 ⟨hm2, h⟩, ?_, fun z hz hzl y hy => ?_, fun hc hm y hy => ?_, by simp⟩
        · rw [ea]; exact (List.perm_append_singleton (m.f1, m.f0) (pm (x :: r))).symm
        · rcases List.mem_cons.1 hy with rfl | hy
          · exact hz
          · exact hzl y hy
        · rcases List.mem_cons.1 (show y ∈ (m.f1, m.f0) :: pm (x :: r) from hy) with rfl | hy
          · exact hm
          · exact hc y hy
structure RefNF (l : List S60) : Prop where
  sorted : SortedM l
  nf : NF (pm l)
theorem RefNF.at_ {l : List S60} (h : RefNF l) {x : S60} (hx : x ∈ l) : x.f1.length = 8 ∧ 1 ≤ x.f0 ∧ x.f0 ≤ 1000000000000000 ∧ ∀ n ∈ x.f1, 0 ≤ n ∧ n ≤ 60 := by
  have hm : pairOf x ∈ pm l := List.mem_map.2 ⟨x, hx, rfl⟩
  exact ⟨(h.nf.good.ge _ hm).1, h.nf.good.gp _ hm, h.nf.good.gc _ hm, (h.nf.good.ge _ hm).2⟩
theorem acc_step (acc : List S60) (Q : Po) (m : S60) (hs : SortedM acc) (hp : (pm acc).Perm (sumL Q)) (hc : okC (pm acc)) (he : okE Q) (hq : okP Q) (hl : acc.length ≤ 100000000)
    (hm : m.f1.length = 8 ∧ 1 ≤ m.f0 ∧ m.f0 ≤ 1000000000000000) :
    (Ev (fun k => tenetref24_into.f k acc m.f0 m.f1) ([], false) ∧ fits (sumL (Q ++ [(m.f1, m.f0)])) = false) ∨
    ∃ acc', Ev (fun k => tenetref24_into.f k acc m.f0 m.f1) (acc', true) ∧ SortedM acc' ∧ (pm acc').Perm (sumL (Q ++ [(m.f1, m.f0)])) ∧ okC (pm acc') ∧ acc'.length ≤ acc.length + 1 := by
  have hE := okE_perm hp.symm (okE_sumL Q he)
  have hP := okP_perm hp.symm (okP_sumL Q hq)
  have h8 : len8 acc := fun x hx => (hE _ (List.mem_map.2 ⟨x, hx, rfl⟩)).1
  have h0 : ∀ x ∈ acc, 0 ≤ x.f0 ∧ x.f0 ≤ 1000000000000000 := fun x hx => by
    have a := hP _ (List.mem_map.2 ⟨x, hx, rfl⟩)
    have b := hc _ (List.mem_map.2 ⟨x, hx, rfl⟩)
    have a' : 1 ≤ x.f0 := a
    exact ⟨by omega, b⟩
  have hev := into_ev acc m hl h8 hm.1 ⟨by omega, hm.2.2⟩ h0
  have hpo := into_po m acc hs
  have hperm : (addM m.f1 m.f0 (pm acc)).Perm (sumL (Q ++ [(m.f1, m.f0)])) := by
    rw [sumL_snoc]
    exact addM_perm hp (sorted_nodup hs) (nodupK_sumL Q) _ _
  cases h : intoL m acc with
  | none =>
    rw [h] at hev hpo
    obtain ⟨v, hv, hb⟩ := hpo
    refine .inl ⟨hev, ?_⟩
    rw [← fits_perm hperm]
    cases hf : fits (addM m.f1 m.f0 (pm acc)) with
    | false => rfl
    | true => have h2 : v ≤ 1000000000000000 := (fits_iff.1 hf).1 _ hv; omega
  | some l' =>
    rw [h] at hev hpo
    obtain ⟨a1, a2, _, a4, a5⟩ := hpo
    exact .inr ⟨l', hev, a1, a2.trans hperm, a4 hc hm.2.2, a5⟩
theorem decLen {l : List S60} {Q : Po} (hp : (pm l).Perm (sumL Q)) (hc : okC (pm l)) : decide ((l.length : Int) ≤ 200) = fits (sumL Q) := by
  rw [← fits_perm hp, Bool.eq_iff_iff, fits_iff, decide_eq_true_eq]
  constructor
  · intro h; exact ⟨hc, by rw [pm_length]; omega⟩
  · intro h; have := h.2; rw [pm_length] at this; omega
def AddPost (Q : Po) (okm : Bool) (g : Nat → Option (List S60 × Bool)) : Prop :=
  ∃ l ok, Ev g (l, ok) ∧ ok = (okm && fits (sumL Q)) ∧ (ok = true → SortedM l ∧ (pm l).Perm (sumL Q))
theorem AddPost.step {Q : Po} {okm : Bool} {g f : Nat → Option (List S60 × Bool)} (h : ∀ k, g (k + 1) = f k) (hf : AddPost Q okm f) : AddPost Q okm g := by
  obtain ⟨l, ok, a, b⟩ := hf
  exact ⟨l, ok, Ev.step h a, b⟩
theorem AddPost.congr {Q : Po} {okm : Bool} {g f : Nat → Option (List S60 × Bool)} (h : ∀ k, g k = f k) (hf : AddPost Q okm f) : AddPost Q okm g := by
  obtain ⟨l, ok, a, b⟩ := hf
  exact ⟨l, ok, Ev.congr h a, b⟩
theorem AddPost.bind {Q : Po} {okm : Bool} {α : Type} {g : Nat → Option α} {f : Nat → α → Option (List S60 × Bool)} {a : α} (h : Ev g a) (hf : AddPost Q okm (fun n => f n a)) : AddPost Q okm (fun n => (g n).bind (f n)) := by
  obtain ⟨l, ok, h1, b⟩ := hf
  exact ⟨l, ok, Ev.bind h h1, b⟩
theorem AddPost.no {Q : Po} {okm : Bool} (l : List S60) (h : (okm && fits (sumL Q)) = false) : AddPost Q okm (fun _ => some (l, false)) :=
  ⟨l, false, Ev.now _, h.symm, fun h => by cases h⟩
theorem AddPost.yes {Q : Po} {l : List S60} (hs : SortedM l) (hp : (pm l).Perm (sumL Q)) (hc : okC (pm l)) : AddPost Q true (fun _ => some (l, decide ((l.length : Int) ≤ 200))) :=
  ⟨l, _, Ev.now _, by rw [decLen hp hc, Bool.true_and], fun _ => ⟨hs, hp⟩⟩
theorem okE_pm {l : List S60} (h : RefNF l) : okE (pm l) := h.nf.good.ge
theorem okP_pm {l : List S60} (h : RefNF l) : okP (pm l) := h.nf.good.gp
theorem okE_app {p q : Po} (hp : okE p) (hq : okE q) : okE (p ++ q) := fun m hm => (List.mem_append.1 hm).elim (hp m) (hq m)
theorem okP_app {p q : Po} (hp : okP p) (hq : okP q) : okP (p ++ q) := fun m hm => (List.mem_append.1 hm).elim (hp m) (hq m)
theorem okE_pre {p q : Po} (h : okE (p ++ q)) : okE p := fun m hm => h m (by simp [hm])
theorem okP_pre {p q : Po} (h : okP (p ++ q)) : okP p := fun m hm => h m (by simp [hm])
theorem okP_suf {p q : Po} (h : okP (p ++ q)) : okP q := fun m hm => h m (by simp [hm])
section
variable (k : Nat) (x1 x6 : List S60) (i : Int)
theorem add_l0_ge (h : ¬ i < (x1.length : Int)) : tenetref24_add.l0 (k + 1) x1 x6 i = some (x6, decide ((x6.length : Int) ≤ 200)) := by
  rw [tenetref24_add.l0, if_neg h]
theorem add_l0_lt (h : i < (x1.length : Int)) (h0 : 0 ≤ i) : tenetref24_add.l0 (k + 1) x1 x6 i =
    (tenetref24_into.f k x6 (rd_T60 x1 i).f0 (rd_T60 x1 i).f1).bind fun bt => if bt.2 = true then tenetref24_add.l0 k x1 bt.1 (wrap64 (i + 1)) else some ([], false) := by
  rw [tenetref24_add.l0, if_pos h, if_pos h0]
end
theorem addRef_ev (a b : List S60) (ha : RefNF a) (hb : RefNF b) : AddPost (pm a ++ pm b) true (fun k => tenetref24_add.f k a b) := by
  have hal : a.length ≤ 200 := by have := ha.nf.len; rwa [pm_length] at this
  have hbl : b.length ≤ 200 := by have := hb.nf.len; rwa [pm_length] at this
  have loop : ∀ (r pre acc : List S60), b = pre ++ r → SortedM acc → (pm acc).Perm (sumL (pm a ++ pm pre)) → okC (pm acc) → acc.length ≤ a.length + pre.length →
      AddPost (pm a ++ pm b) true (fun k => tenetref24_add.l0 k b acc (pre.length : Int)) := by
    intro r
    induction r with
    | nil =>
      intro pre acc hp hs hperm hc hl
      rw [List.append_nil] at hp
      refine AddPost.step (fun k => add_l0_ge k b acc _ (by rw [hp]; omega)) ?_
      rw [hp]
      exact AddPost.yes hs hperm hc
    | cons m r ih =>
      intro pre acc hp hs hperm hc hl
      have hlt : pre.length < b.length := by rw [hp]; simp
      have em : rd_T60 b (pre.length : Int) = m := by rw [hp]; exact rdM_mid _ _ _
      have hm := hb.at_ (show m ∈ b by rw [hp]; simp)
      have hE : okE (pm a ++ pm pre) := okE_app (okE_pm ha) (okE_pre (q := pm (m :: r)) (by rw [← pm_append, ← hp]; exact okE_pm hb))
      have hP : okP (pm a ++ pm pre) := okP_app (okP_pm ha) (okP_pre (q := pm (m :: r)) (by rw [← pm_append, ← hp]; exact okP_pm hb))
      have hP2 : okP (pm r) := okP_suf (p := pm (pre ++ [m])) (by rw [← pm_append, show (pre ++ [m]) ++ r = b by rw [hp]; simp]; exact okP_pm hb)
      have eq2 : pm a ++ pm b = (pm a ++ pm pre ++ [(m.f1, m.f0)]) ++ pm r := by
        rw [hp, pm_append]
        simp [pm, pairOf]
      refine AddPost.step (fun k => add_l0_lt k b acc _ (by omega) (by omega)) ?_
      rw [em]
      rcases acc_step acc (pm a ++ pm pre) m hs hperm hc hE hP (by omega) ⟨hm.1, hm.2.1, hm.2.2.1⟩ with ⟨h1, h2⟩ | ⟨acc', h1, h2, h3, h4, h5⟩
      · refine AddPost.bind h1 ?_
        simp only [Bool.false_eq_true, if_false]
        refine AddPost.no [] ?_
        rw [eq2, fits_false _ _ hP2 h2]; rfl
      · refine AddPost.bind h1 ?_
        simp only [if_true]
        rw [wrap_succ _ (by omega)]
        have := ih (pre ++ [m]) acc' (by rw [hp]; simp) h2 (by rw [pm_append, ← List.append_assoc]; exact h3) h4 (by rw [List.length_append, List.length_singleton]; omega)
        rw [List.length_append, List.length_singleton] at this
        exact this
  refine AddPost.congr (fun k => rfl) (loop b [] a rfl ha.sorted ?_ ha.nf.good.gc (by simp))
  rw [show pm [] = [] from rfl, List.append_nil, sumL_self _ (sorted_nodup ha.sorted)]
end Go.Proofs.Ythkclagcbjnckaa.Pa

namespace Go.Proofs.Ythkclagcbjnckaa.Pa
open Go.RowKit Go.Proofs.YthkclagcbjnckaaW.PrintWords Go.Proofs.YthkclagcbjnckaaW.PrintLast Go.Proofs.YthkclagcbjnckaaW.PrintMore
set_option linter.unusedVariables false
section
variable (k : Nat) (i x0 y0 c : Int) (xs ys es : List Int)
theorem times_l0_end (h : ¬ i < 8) : tenetref24_times.l0 (k + 1) i x0 xs y0 ys c es = some (c, es, true) := by rw [tenetref24_times.l0, if_neg h]
theorem times_l0_big (h : i < 8) (h0 : 0 ≤ i) (h1 : i < (xs.length : Int)) (h2 : i < (ys.length : Int)) (hb : wrap64 (rd xs i + rd ys i) > 60) : tenetref24_times.l0 (k + 1) i x0 xs y0 ys c es = some (0, [], false) := by
  rw [tenetref24_times.l0, if_pos h, if_pos h0, if_pos h1, if_pos h2, if_pos hb]
theorem times_l0_go (h : i < 8) (h0 : 0 ≤ i) (h1 : i < (xs.length : Int)) (h2 : i < (ys.length : Int)) (hb : ¬ wrap64 (rd xs i + rd ys i) > 60) (hl : es.length < 17592186044416) : tenetref24_times.l0 (k + 1) i x0 xs y0 ys c es =
    tenetref24_times.l0 k (wrap64 (i + 1)) x0 xs y0 ys c (es ++ [wrap64 (rd xs i + rd ys i)]) := by
  rw [tenetref24_times.l0, if_pos h, if_pos h0, if_pos h1, if_pos h2, if_neg hb, if_pos hl]
end
theorem lt17 {n : Nat} (h : n ≤ 8) : n < 17592186044416 := by omega
theorem wrap_e {a b : Int} (ha : 0 ≤ a ∧ a ≤ 60) (hb : 0 ≤ b ∧ b ≤ 60) : wrap64 (a + b) = a + b := by unfold wrap64; omega
def coB (xs ys : List Int) : Bool := (mulX xs ys).all (fun n => decide (n ≤ 60))
theorem times_loop (x0 y0 c : Int) (xs ys : List Int) (hx : xs.length = 8) (hy : ys.length = 8) (hxe : ∀ n ∈ xs, 0 ≤ n ∧ n ≤ 60) (hye : ∀ n ∈ ys, 0 ≤ n ∧ n ≤ 60) :
    ∀ (rx px ry py es : List Int), xs = px ++ rx → ys = py ++ ry → px.length = py.length → es.length = px.length →
    Ev (fun k => tenetref24_times.l0 k (px.length : Int) x0 xs y0 ys c es) (if coB rx ry = true then (c, es ++ mulX rx ry, true) else (0, [], false)) := by
  intro rx
  induction rx with
  | nil =>
    intro px ry py es h1 h2 h3 h4
    rw [List.append_nil] at h1
    refine Ev.step (f := fun _ => some (c, es, true)) (fun k => times_l0_end k _ _ _ _ _ _ _ (by rw [← h1]; omega)) ?_
    rw [if_pos (by simp [coB, mulX]), show mulX [] ry = [] from rfl, List.append_nil]
    exact Ev.now _
  | cons a rx ih =>
    intro px ry py es h1 h2 h3 h4
    cases ry with
    | nil => exfalso; rw [List.append_nil] at h2; rw [h1] at hx; rw [h2] at hy; simp at hx; omega
    | cons b ry =>
      have ea : rd xs (px.length : Int) = a := by rw [h1]; exact rdI_mid _ _ _
      have eb : rd ys (px.length : Int) = b := by rw [h2, h3]; exact rdI_mid _ _ _
      have ha := hxe a (by rw [h1]; simp)
      have hb := hye b (by rw [h2]; simp)
      have hw := wrap_e ha hb
      have hlx : px.length < xs.length := by rw [h1]; simp
      have hly : px.length < ys.length := by rw [h2, h3]; simp
      have ecb : coB (a :: rx) (b :: ry) = (decide (a + b ≤ 60) && coB rx ry) := rfl
      by_cases hbig : a + b > 60
      · rw [ecb, decide_eq_false (by omega), Bool.false_and, if_neg (by simp)]
        exact Ev.step (f := fun _ => some (0, [], false)) (fun k => times_l0_big k _ _ _ _ _ _ _ (by omega) (by omega) (by omega) (by omega) (by rw [ea, eb, hw]; exact hbig)) (Ev.now _)
      · rw [ecb, decide_eq_true (by omega), Bool.true_and]
        refine Ev.step (fun k => times_l0_go k _ _ _ _ _ _ _ (by omega) (by omega) (by omega) (by omega) (by rw [ea, eb, hw]; exact hbig) (lt17 (by omega))) ?_
        rw [ea, eb, hw, wrap_succ _ (by omega)]
        have h := ih (px ++ [a]) ry (py ++ [b]) (es ++ [a + b]) (by rw [h1]; simp) (by rw [h2]; simp) (by simp [h3]) (by simp [h4])
        rw [List.length_append, List.length_singleton] at h
        rw [show es ++ mulX (a :: rx) (b :: ry) = (es ++ [a + b]) ++ mulX rx ry by simp [mulX]]
        exact h
theorem div_le {a b : Int} (hb : 1 ≤ b) : a ≤ 1000000000000000 / b ↔ a * b ≤ 1000000000000000 := Int.le_ediv_iff_mul_le (by omega)
theorem wrap_div {b : Int} (hb : 1 ≤ b) : wrap64 ((1000000000000000 : Int) / b) = 1000000000000000 / b := by
  have h1 : 0 ≤ (1000000000000000 : Int) / b := Int.ediv_nonneg (by decide) (by omega)
  have h2 : (1000000000000000 : Int) / b ≤ 1000000000000000 := Int.ediv_le_self _ (by decide)
  exact wrap64_in (by omega) (by omega)
theorem wrap_mul {a b : Int} (ha : 1 ≤ a) (hb : 1 ≤ b) (h : a * b ≤ 1000000000000000) : wrap64 (a * b) = a * b := by
  have : 0 ≤ a * b := Int.mul_nonneg (by omega) (by omega)
  exact wrap64_in (by omega) (by omega)
def timesT (x y : S60) : Int × List Int × Bool := if okMM (pairOf x) (pairOf y) = true then (x.f0 * y.f0, mulX x.f1 y.f1, true) else (0, [], false)
theorem timesRef_ev (x y : S60) (hx : x.f1.length = 8 ∧ 1 ≤ x.f0 ∧ x.f0 ≤ 1000000000000000 ∧ ∀ n ∈ x.f1, 0 ≤ n ∧ n ≤ 60) (hy : y.f1.length = 8 ∧ 1 ≤ y.f0 ∧ y.f0 ≤ 1000000000000000 ∧ ∀ n ∈ y.f1, 0 ≤ n ∧ n ≤ 60) :
    Ev (fun k => tenetref24_times.f k x.f0 x.f1 y.f0 y.f1) (timesT x y) := by
  obtain ⟨x8, x1, x2, xe⟩ := hx
  obtain ⟨y8, y1, y2, ye⟩ := hy
  have hk : okMM (pairOf x) (pairOf y) = (coB x.f1 y.f1 && decide (x.f0 * y.f0 ≤ 1000000000000000)) := rfl
  have wd := wrap_div y1
  have dl := @div_le x.f0 y.f0 y1
  have y0 : ¬ y.f0 = 0 := by omega
  unfold timesT
  rw [hk]
  by_cases hb : x.f0 * y.f0 ≤ 1000000000000000
  · have wm := wrap_mul x1 y1 hb
    rw [decide_eq_true hb, Bool.and_true]
    have hn : ¬ x.f0 > 1000000000000000 / y.f0 := Int.not_lt.2 (dl.2 hb)
    refine Ev.congr (f := fun k => tenetref24_times.l0 k 0 x.f0 x.f1 y.f0 y.f1 (x.f0 * y.f0) []) (fun k => ?_) ?_
    · rw [tenetref24_times.f, if_neg y0, wd, if_neg hn, wm]
    · have := times_loop x.f0 y.f0 (x.f0 * y.f0) x.f1 y.f1 x8 y8 xe ye x.f1 [] y.f1 [] [] rfl rfl rfl rfl
      exact this
  · rw [decide_eq_false hb, Bool.and_false, if_neg (by simp)]
    have hn : x.f0 > 1000000000000000 / y.f0 := Int.not_le.1 (fun h => hb (dl.1 h))
    refine Ev.congr (f := fun _ => some (0, [], false)) (fun k => ?_) (Ev.now _)
    rw [tenetref24_times.f, if_neg y0, wd, if_pos hn]
section
variable (k : Nat) (x0 x1 x6 : List S60) (i j : Int)
theorem mul_l0_ge (h : ¬ i < (x0.length : Int)) : tenetref24_mul.l0 (k + 1) x0 x1 x6 i = some (x6, decide ((x6.length : Int) ≤ 200)) := by rw [tenetref24_mul.l0, if_neg h]
theorem mul_l0_lt (h : i < (x0.length : Int)) : tenetref24_mul.l0 (k + 1) x0 x1 x6 i = tenetref24_mul.l1 k x0 x1 x6 i 0 := by rw [tenetref24_mul.l0, if_pos h]
theorem mul_l1_ge (h : ¬ j < (x1.length : Int)) : tenetref24_mul.l1 (k + 1) x0 x1 x6 i j = tenetref24_mul.l0 k x0 x1 x6 (wrap64 (i + 1)) := by rw [tenetref24_mul.l1, if_neg h]
theorem mul_l1_lt (h : j < (x1.length : Int)) (hi0 : 0 ≤ i) (hi : i < (x0.length : Int)) (hj0 : 0 ≤ j) : tenetref24_mul.l1 (k + 1) x0 x1 x6 i j =
    (tenetref24_times.f k (rd_T60 x0 i).f0 (rd_T60 x0 i).f1 (rd_T60 x1 j).f0 (rd_T60 x1 j).f1).bind fun bt371 => (if bt371.2.2 = true then ((tenetref24_into.f k x6 bt371.1 bt371.2.1).bind fun bt377 => (if bt377.2 = true then (tenetref24_mul.l1 k x0 x1 bt377.1 i (wrap64 (j + 1))) else (some (([] : List (S60)), false)))) else (some (([] : List (S60)), false))) := by
  rw [tenetref24_mul.l1, if_pos h, if_pos hi0, if_pos hi, if_pos hj0]
end
theorem prodL_append (p q r : Po) : prodL (p ++ q) r = prodL p r ++ prodL q r := by simp [prodL, List.flatMap_append]
theorem prodL_cons (x : List Int × Int) (q r : Po) : prodL (x :: q) r = r.map (mulM x) ++ prodL q r := by simp [prodL]
theorem okMul_append (p q r : Po) : okMul (p ++ q) r = (okMul p r && okMul q r) := by simp [okMul]
theorem mulRef_ev (a b : List S60) (ha : RefNF a) (hb : RefNF b) : AddPost (prodL (pm a) (pm b)) (okMul (pm a) (pm b)) (fun k => tenetref24_mul.f k a b) := by
  have hal : a.length ≤ 200 := by have := ha.nf.len; rwa [pm_length] at this
  have hbl : b.length ≤ 200 := by have := hb.nf.len; rwa [pm_length] at this
  have inner : ∀ (x : S60) (ra pa : List S60), a = pa ++ x :: ra → okMul (pm pa) (pm b) = true →
      (∀ acc : List S60, SortedM acc → (pm acc).Perm (sumL (prodL (pm (pa ++ [x])) (pm b))) → okC (pm acc) → okMul (pm (pa ++ [x])) (pm b) = true → acc.length ≤ (pa.length + 1) * 200 →
        AddPost (prodL (pm a) (pm b)) (okMul (pm a) (pm b)) (fun k => tenetref24_mul.l0 k a b acc ((pa.length + 1 : Nat) : Int))) →
      ∀ (r pre acc : List S60), b = pre ++ r → SortedM acc → (pm acc).Perm (sumL (prodL (pm pa) (pm b) ++ (pm pre).map (mulM (pairOf x)))) → okC (pm acc) → (pm pre).all (okMM (pairOf x)) = true → acc.length ≤ pa.length * 200 + pre.length →
        AddPost (prodL (pm a) (pm b)) (okMul (pm a) (pm b)) (fun k => tenetref24_mul.l1 k a b acc (pa.length : Int) (pre.length : Int)) := by
    intro x ra pa hpa hok hnext r
    have hxa : x ∈ a := by rw [hpa]; simp
    have hx := ha.at_ hxa
    have hlta : pa.length < a.length := by rw [hpa]; simp
    have ex : rd_T60 a (pa.length : Int) = x := by rw [hpa]; exact rdM_mid _ _ _
    have epa : pm a = pm pa ++ pairOf x :: pm ra := by rw [hpa, pm_append]; rfl
    induction r with
    | nil =>
      intro pre acc hp hs hperm hc hall hl
      rw [List.append_nil] at hp
      refine AddPost.step (fun k => mul_l1_ge k a b acc _ _ (by rw [hp]; omega)) ?_
      rw [wrap_succ _ (by omega)]
      have e1 : prodL (pm (pa ++ [x])) (pm b) = prodL (pm pa) (pm b) ++ (pm pre).map (mulM (pairOf x)) := by
        rw [pm_append, prodL_append, ← hp, show pm [x] = [pairOf x] from rfl, prodL_cons, show prodL [] (pm b) = [] from rfl, List.append_nil]
      refine hnext acc hs (by rw [e1]; exact hperm) hc ?_ ?_
      · rw [pm_append, okMul_append, hok, show pm [x] = [pairOf x] from rfl, row_okMul, hp, hall]; rfl
      · rw [← hp] at hl; rw [Nat.add_mul]; omega
    | cons y r ih =>
      intro pre acc hp hs hperm hc hall hl
      have hyb : y ∈ b := by rw [hp]; simp
      have hy := hb.at_ hyb
      have hltb : pre.length < b.length := by rw [hp]; simp
      have ey : rd_T60 b (pre.length : Int) = y := by rw [hp]; exact rdM_mid _ _ _
      have epb : pm b = pm pre ++ pairOf y :: pm r := by rw [hp, pm_append]; rfl
      have hxm : pairOf x ∈ pm a := List.mem_map.2 ⟨x, hxa, rfl⟩
      have hym : pairOf y ∈ pm b := List.mem_map.2 ⟨y, hyb, rfl⟩
      refine AddPost.step (fun k => mul_l1_lt k a b acc _ _ (by omega) (by omega) (by omega) (by omega)) ?_
      rw [ex, ey]
      refine AddPost.bind (timesRef_ev x y hx hy) ?_
      unfold timesT
      by_cases hmm : okMM (pairOf x) (pairOf y) = true
      · rw [if_pos hmm]
        simp only [if_true]
        have hq1 : okMul (pm pa) (pm b) = true := hok
        have hm8 := okE_mulM (x := pairOf x) (y := pairOf y) ⟨hx.1, hx.2.2.2⟩ ⟨hy.1, hy.2.2.2⟩ hmm
        have hmc : x.f0 * y.f0 ≤ 1000000000000000 := by
          have : okMM (pairOf x) (pairOf y) = (coB x.f1 y.f1 && decide (x.f0 * y.f0 ≤ 1000000000000000)) := rfl
          rw [this, Bool.and_eq_true] at hmm
          exact of_decide_eq_true hmm.2
        have hmp : 1 ≤ x.f0 * y.f0 := by
          have h1 := hx.2.1
          have h2 := hy.2.1
          have : (1 : Int) * 1 ≤ x.f0 * y.f0 := Int.mul_le_mul h1 h2 (by decide) (by omega)
          simpa using this
        have hE : okE (prodL (pm pa) (pm b) ++ (pm pre).map (mulM (pairOf x))) := by
          refine okE_app (okE_prodL (okE_pre (q := pairOf x :: pm ra) (by rw [← epa]; exact okE_pm ha)) (okE_pm hb) hok) ?_
          intro q hq
          obtain ⟨z, hz, rfl⟩ := List.mem_map.1 hq
          have hzb : z ∈ pm b := by rw [epb]; simp [hz]
          exact okE_mulM (okE_pm ha _ hxm) (okE_pm hb _ hzb) (List.all_eq_true.1 hall z hz)
        have hP : okP (prodL (pm pa) (pm b) ++ (pm pre).map (mulM (pairOf x))) := by
          refine okP_app (okP_prodL (okP_pre (q := pairOf x :: pm ra) (by rw [← epa]; exact okP_pm ha)) (okP_pm hb)) ?_
          rw [← row_prodL]
          exact okP_prodL (fun q hq => by rw [List.mem_singleton] at hq; subst hq; exact okP_pm ha _ hxm) (okP_pre (q := pairOf y :: pm r) (by rw [← epb]; exact okP_pm hb))
        have hrest : okP ((pm r).map (mulM (pairOf x)) ++ prodL (pm ra) (pm b)) := by
          refine okP_app ?_ (okP_prodL (okP_suf (p := pm pa ++ [pairOf x]) (by rw [show (pm pa ++ [pairOf x]) ++ pm ra = pm a by rw [epa]; simp]; exact okP_pm ha)) (okP_pm hb))
          rw [← row_prodL]
          exact okP_prodL (fun q hq => by rw [List.mem_singleton] at hq; subst hq; exact okP_pm ha _ hxm) (okP_suf (p := pm pre ++ [pairOf y]) (by rw [show (pm pre ++ [pairOf y]) ++ pm r = pm b by rw [epb]; simp]; exact okP_pm hb))
        have eQ : prodL (pm a) (pm b) = (prodL (pm pa) (pm b) ++ (pm pre).map (mulM (pairOf x)) ++ [(mulX x.f1 y.f1, x.f0 * y.f0)]) ++ ((pm r).map (mulM (pairOf x)) ++ prodL (pm ra) (pm b)) := by
          rw [epa, prodL_append, prodL_cons]
          conv => lhs; rhs; lhs; rw [epb]
          simp [mulM, pairOf]
        have hal2 : acc.length ≤ 100000000 := by
          have : pa.length * 200 ≤ 200 * 200 := Nat.mul_le_mul_right 200 (by omega)
          omega
        rcases acc_step acc _ ⟨x.f0 * y.f0, mulX x.f1 y.f1⟩ hs hperm hc hE hP hal2 ⟨hm8.1, hmp, hmc⟩ with ⟨h1, h2⟩ | ⟨acc', h1, h2, h3, h4, h5⟩
        · refine AddPost.bind h1 ?_
          simp only [Bool.false_eq_true, if_false]
          refine AddPost.no [] ?_
          rw [eQ, fits_false _ _ hrest h2, Bool.and_false]
        · refine AddPost.bind h1 ?_
          simp only [if_true]
          rw [wrap_succ _ (by omega)]
          have := ih (pre ++ [y]) acc' (by rw [hp]; simp) h2 (by
            rw [pm_append, List.map_append, ← List.append_assoc]; exact h3) h4 (by
            rw [pm_append, List.all_append, hall]; simp [pm, hmm]) (by rw [List.length_append, List.length_singleton]; omega)
          rw [List.length_append, List.length_singleton] at this
          exact this
      · have hmm' := Bool.eq_false_iff.2 hmm
        rw [if_neg hmm]
        simp only [Bool.false_eq_true, if_false]
        refine AddPost.no [] ?_
        rw [okMul_false hxm hym hmm', Bool.false_and]
  have outer : ∀ (ra pa acc : List S60), a = pa ++ ra → SortedM acc → (pm acc).Perm (sumL (prodL (pm pa) (pm b))) → okC (pm acc) → okMul (pm pa) (pm b) = true → acc.length ≤ pa.length * 200 →
      AddPost (prodL (pm a) (pm b)) (okMul (pm a) (pm b)) (fun k => tenetref24_mul.l0 k a b acc (pa.length : Int)) := by
    intro ra
    induction ra with
    | nil =>
      intro pa acc hp hs hperm hc hok hl
      rw [List.append_nil] at hp
      refine AddPost.step (fun k => mul_l0_ge k a b acc _ (by rw [hp]; omega)) ?_
      rw [hp, hok]
      exact AddPost.yes hs hperm hc
    | cons x ra ih =>
      intro pa acc hp hs hperm hc hok hl
      have hlt : pa.length < a.length := by rw [hp]; simp
      refine AddPost.step (fun k => mul_l0_lt k a b acc _ (by omega)) ?_
      refine inner x ra pa hp hok (fun acc2 s2 p2 c2 o2 l2 => ?_) b [] acc rfl hs (by simpa [pm] using hperm) hc rfl (by simpa using hl)
      have := ih (pa ++ [x]) acc2 (by rw [hp]; simp) s2 p2 c2 o2 (by rw [List.length_append, List.length_singleton]; exact l2)
      rw [List.length_append, List.length_singleton] at this
      exact this
  refine AddPost.congr (fun k => rfl) (outer a [] [] rfl (by simp [SortedM]) ?_ (fun m hm => by cases hm) rfl (by simp))
  exact List.Perm.refl _
theorem nf_perm {p q : Po} (h : p.Perm q) (n : NF p) : NF q := ⟨good_perm h n.good, by rw [← h.length_eq]; exact n.len⟩
def NormRef (e : Ex) (g : Nat → Option (List S60 × Bool)) : Prop :=
  ∃ l ok, Ev g (l, ok) ∧ ok = (polyOf e).isSome ∧ ∀ p, polyOf e = some p → SortedM l ∧ (pm l).Perm p
theorem NormRef.step {e : Ex} {g f : Nat → Option (List S60 × Bool)} (h : ∀ k, g (k + 1) = f k) (hf : NormRef e f) : NormRef e g := by
  obtain ⟨l, ok, a, b⟩ := hf
  exact ⟨l, ok, Ev.step h a, b⟩
theorem lt35 : (8 : Nat) ≤ 35184372088832 := by decide
section
variable (k : Nat) (op n : Int) (l : List S27)
theorem normal_num0 : tenetref24_normal.f (k + 1) 1 0 l = some ([], true) := by rw [tenetref24_normal.f, if_pos rfl, if_pos rfl]
theorem normal_num (h : ¬ n = 0) : tenetref24_normal.f (k + 1) 1 n l = some ([⟨n, zeros8⟩], true) := by
  rw [tenetref24_normal.f, if_pos rfl, if_neg h, if_pos lt35]; rfl
theorem normal_var (h0 : 0 ≤ n) (h : n < 8) : tenetref24_normal.f (k + 1) 2 n l = some ([⟨1, zeros8.set n.toNat 1⟩], true) := by
  rw [tenetref24_normal.f, if_neg (by decide), if_pos rfl, if_pos lt35, Option.bind_some, if_pos h0, if_pos (by simpa using h)]; rfl
theorem normal_two (x y : S27) (h1 : ¬ op = 1) (h2 : ¬ op = 2) : tenetref24_normal.f (k + 1) op n [x, y] =
    (tenetref24_normal.f k x.f0 x.f1 x.f2).bind fun bt396 => (if bt396.2 = true then ((tenetref24_normal.f k y.f0 y.f1 y.f2).bind fun bt401 => (if bt401.2 = true then (if op = 3 then ((tenetref24_add.f k bt396.1 bt401.1).bind fun bt405 => (some (bt405.1, bt405.2))) else ((tenetref24_mul.f k bt396.1 bt401.1).bind fun bt409 => (some (bt409.1, bt409.2)))) else (some (([] : List (S60)), false)))) else (some (([] : List (S60)), false))) := by
  rw [tenetref24_normal.f, if_neg h1, if_neg h2, if_pos (by simp)]
  rfl
end
theorem pair_id (g : Option (List S60 × Bool)) : (g.bind fun bt => some (bt.1, bt.2)) = g := by cases g <;> rfl
theorem normRef_ev : ∀ (e : Ex), e.top ≤ 1000000000000000 → NormRef e (fun k => tenetref24_normal.f k (ofEx e).f0 (ofEx e).f1 (ofEx e).f2)
  | .num n, he => by
    by_cases h0 : n = 0
    · subst h0
      refine NormRef.step (f := fun _ => some ([], true)) (fun k => normal_num0 k _) ?_
      exact ⟨[], true, Ev.now _, rfl, fun p hp => by simp [polyOf] at hp; subst hp; exact ⟨by simp [SortedM], List.Perm.refl _⟩⟩
    · refine NormRef.step (f := fun _ => some ([⟨(n : Int), zeros8⟩], true)) (fun k => normal_num k (n : Int) _ (by omega)) ?_
      exact ⟨_, true, Ev.now _, rfl, fun p hp => by simp [polyOf, h0] at hp; subst hp; exact ⟨by simp [SortedM], List.Perm.refl _⟩⟩
  | .var v, he => by
    refine NormRef.step (f := fun _ => some ([⟨1, zeros8.set (v.val : Int).toNat 1⟩], true)) (fun k => normal_var k (v.val : Int) _ (by omega) (by have := v.2; omega)) ?_
    exact ⟨_, true, Ev.now _, rfl, fun p hp => by simp [polyOf] at hp; subst hp; exact ⟨by simp [SortedM], by simp [pm, pairOf, unit8]⟩⟩
  | .add a b, he => by
    have hta : a.top ≤ 1000000000000000 := by simp only [Ex.top] at he; omega
    have htb : b.top ≤ 1000000000000000 := by simp only [Ex.top] at he; omega
    obtain ⟨la, oka, e1, e2, e3⟩ := normRef_ev a hta
    obtain ⟨lb, okb, f1, f2, f3⟩ := normRef_ev b htb
    refine NormRef.step (fun k => normal_two k 3 0 (ofEx a) (ofEx b) (by decide) (by decide)) ?_
    cases hpa : polyOf a with
    | none =>
      have : oka = false := by rw [e2, hpa]; rfl
      subst this
      refine ⟨[], false, Ev.bind e1 ?_, by simp [polyOf, hpa], fun p hp => by simp [polyOf, hpa] at hp⟩
      simp only [Bool.false_eq_true, if_false]; exact Ev.now _
    | some x =>
      have : oka = true := by rw [e2, hpa]; rfl
      subst this
      obtain ⟨s1, p1⟩ := e3 x hpa
      cases hpb : polyOf b with
      | none =>
        have : okb = false := by rw [f2, hpb]; rfl
        subst this
        refine ⟨[], false, Ev.bind e1 ?_, by simp [polyOf, hpa, hpb], fun p hp => by simp [polyOf, hpa, hpb] at hp⟩
        simp only [if_true]
        refine Ev.bind f1 ?_
        simp only [Bool.false_eq_true, if_false]; exact Ev.now _
      | some y =>
        have : okb = true := by rw [f2, hpb]; rfl
        subst this
        obtain ⟨s2, p2⟩ := f3 y hpb
        obtain ⟨l, ok, g1, g2, g3⟩ := addRef_ev la lb ⟨s1, nf_perm p1.symm (nf_poly a x hta hpa)⟩ ⟨s2, nf_perm p2.symm (nf_poly b y htb hpb)⟩
        have hs := add_some hpa hpb p1 p2 (List.Perm.refl (pm la ++ pm lb))
        refine ⟨l, ok, Ev.bind e1 ?_, by rw [hs.1, g2, Bool.true_and], fun p hp => ?_⟩
        · simp only [if_true]
          refine Ev.bind f1 ?_
          simp only [if_true]
          exact Ev.congr (fun k => pair_id _) g1
        · obtain ⟨h1, h2⟩ := hs.2 p hp
          obtain ⟨h3, h4⟩ := g3 (by rw [g2, h1]; rfl)
          exact ⟨h3, h4.trans h2⟩
  | .mul a b, he => by
    have hta : a.top ≤ 1000000000000000 := by simp only [Ex.top] at he; omega
    have htb : b.top ≤ 1000000000000000 := by simp only [Ex.top] at he; omega
    obtain ⟨la, oka, e1, e2, e3⟩ := normRef_ev a hta
    obtain ⟨lb, okb, f1, f2, f3⟩ := normRef_ev b htb
    refine NormRef.step (fun k => normal_two k 4 0 (ofEx a) (ofEx b) (by decide) (by decide)) ?_
    cases hpa : polyOf a with
    | none =>
      have : oka = false := by rw [e2, hpa]; rfl
      subst this
      refine ⟨[], false, Ev.bind e1 ?_, by simp [polyOf, hpa], fun p hp => by simp [polyOf, hpa] at hp⟩
      simp only [Bool.false_eq_true, if_false]; exact Ev.now _
    | some x =>
      have : oka = true := by rw [e2, hpa]; rfl
      subst this
      obtain ⟨s1, p1⟩ := e3 x hpa
      cases hpb : polyOf b with
      | none =>
        have : okb = false := by rw [f2, hpb]; rfl
        subst this
        refine ⟨[], false, Ev.bind e1 ?_, by simp [polyOf, hpa, hpb], fun p hp => by simp [polyOf, hpa, hpb] at hp⟩
        simp only [if_true]
        refine Ev.bind f1 ?_
        simp only [Bool.false_eq_true, if_false]; exact Ev.now _
      | some y =>
        have : okb = true := by rw [f2, hpb]; rfl
        subst this
        obtain ⟨s2, p2⟩ := f3 y hpb
        obtain ⟨l, ok, g1, g2, g3⟩ := mulRef_ev la lb ⟨s1, nf_perm p1.symm (nf_poly a x hta hpa)⟩ ⟨s2, nf_perm p2.symm (nf_poly b y htb hpb)⟩
        have hs := mul_some hpa hpb p1 p2 (List.Perm.refl (prodL (pm la) (pm lb)))
        refine ⟨l, ok, Ev.bind e1 ?_, by rw [hs.1, g2], fun p hp => ?_⟩
        · simp only [if_true]
          refine Ev.bind f1 ?_
          simp only [if_true]
          exact Ev.congr (fun k => pair_id _) g1
        · obtain ⟨h1, h2⟩ := hs.2 p hp
          obtain ⟨h3, h4⟩ := g3 (by rw [g2, h1])
          exact ⟨h3, h4.trans h2⟩
theorem sorted_uniq : ∀ {l l' : List S60}, SortedM l → SortedM l' → l.Perm l' → l = l'
  | [], l', _, _, h => (List.nil_perm.1 h).symm
  | x :: r, [], _, _, h => absurd (List.perm_nil.1 h) (by simp)
  | x :: r, y :: s, h1, h2, h => by
    obtain ⟨a1, a2⟩ := List.pairwise_cons.1 h1
    obtain ⟨b1, b2⟩ := List.pairwise_cons.1 h2
    have exy : x = y := by
      rcases List.mem_cons.1 (h.mem_iff.1 (List.mem_cons_self (a := x) (l := r))) with e | hx
      · exact e
      · rcases List.mem_cons.1 (h.mem_iff.2 (List.mem_cons_self (a := y) (l := s))) with e | hy
        · exact e.symm
        · have h3 := a1 y hy
          have h4 := b1 x hx
          have := lexC_trans h3 h4
          rw [lexC_self] at this; omega
    subst exy
    rw [sorted_uniq a2 b2 (List.Perm.cons_inv h)]
theorem pm_inj_perm {l l' : List S60} (h : (pm l).Perm (pm l')) : l.Perm l' := by
  have : ((pm l).map (fun p : List Int × Int => (⟨p.2, p.1⟩ : S60))).Perm ((pm l').map (fun p => ⟨p.2, p.1⟩)) := h.map _
  have e : ∀ l : List S60, (pm l).map (fun p : List Int × Int => (⟨p.2, p.1⟩ : S60)) = l := fun l => by simp [pm, pairOf, Function.comp_def]
  rwa [e, e] at this
end Go.Proofs.Ythkclagcbjnckaa.Pa


namespace Go.Proofs.Ythkclagcbjnckaa.Pa
open Go.RowKit Go.Proofs.YthkclagcbjnckaaW.PrintWords Go.Proofs.YthkclagcbjnckaaW.PrintLast Go.Proofs.YthkclagcbjnckaaW.PrintMore
attribute [local go_sem] max2_int min2_int max_two min_two max_three min_three max_four min_four
set_option linter.unusedVariables false
set_option linter.unusedSimpArgs false
def tenetlaw24_big.f (k : Nat) (a0_0 : Int) (a0_1 : Int) (l0_2 : List (S27)) : Option (Bool) := (tenetref24_Size.f k a0_0 a0_1 l0_2 400).bind fun bt290 => (some (decide (bt290.1 > 400)))
set_option maxHeartbeats 8000000 in
set_option maxRecDepth 100000 in
theorem tenetlaw24_big.calls (k : Nat) (a0_0 : Int) (a0_1 : Int) (A0_2 : Option Addr) (c0_2 : Nat) (l0_2 : List (S27)) (r : Bool) (w : World) (hr0_2 : Kd.C k27 w A0_2 l0_2.length l0_2) (hc0_2 : l0_2.length ≤ c0_2) (h : tenetlaw24_big.f k a0_0 a0_1 l0_2 = some r) :
  Calls Try.prog 17 #[.agg #[.int .i64 a0_0, .int .i64 a0_1, .slice A0_2 l0_2.length c0_2]] w fun e w' => e = .returned (.bool r) ∧ Below w.heap.size w w' := by
 have hu27 := Try.underlying27
 have HR0_2 := Aside0.mk hr0_2
 have HC0_2 := Aside0.mk hc0_2
 clear hr0_2 hc0_2
 have HB := Aside0.mk (Below.refl w.heap.size w)
 have H : ((tenetref24_Size.f k a0_0 a0_1 l0_2 400).bind fun bt290 => (some (decide (bt290.1 > 400)))) = some r := h
 clear h
 replace H := Option.bind_eq_some_iff.mp H
 obtain ⟨⟨t290, t291⟩, A20, H⟩ := H
 replace H : (some (decide (t290 > 400))) = some r := H
 have A2 := Aside0.mk A20
 clear A20
 obtain rfl := Option.some.inj H
 go_enter Try.func17, Try.ntmps17
 go_wp2_with (first | ((with_reducible refine gate_dst (N := 1) rfl ?_); refine box_event ?hg (N := 1) ?hd (cs := #[.int .i64 a0_0, .int .i64 a0_1, .slice A0_2 l0_2.length c0_2]) (t := 27) ?hr ?_; (case hd => rfl); (case hg => rfl); (case hr => first | (go_simp; done) | (go_simp; rfl)); intro gb289 hg w3 hbox hb; have n0_ := Aside0.mk (below_step (by repeat (first | (with_reducible first | exact HB.out | apply below_alloc | apply pw_below_drewN | apply below_drew1) | exact HB.out)) hb); have n1_ := Aside0.mk (hbox); have n2_ := Aside0.mk ((by rw [hg]; exact (below_size (by repeat (first | (with_reducible first | exact HB.out | apply below_alloc | apply pw_below_drewN | apply below_drew1) | exact HB.out))) : w.heap.size ≤ gb289)); have n3_ := Aside0.mk ((by rw [hg]; exact (below_size (by repeat (first | (with_reducible first | exact HB.out | apply below_alloc | apply pw_below_drewN | apply below_drew1) | exact HB.out))) : w.heap.size ≤ gb289)); clear HB; have HB := n0_; have BK289 := n1_; have GW289 := n2_; have GE289 := n3_; clear n0_ n1_ n2_ n3_; clear hb hbox hg; have hcz4_0 : w3.cell? ⟨gb289, 0, none⟩ = some (.int .i64 a0_0) := (blk_cell BK289.out 0).trans rfl; have hcz4_1 : w3.cell? ⟨gb289, 1, none⟩ = some (.int .i64 a0_1) := (blk_cell BK289.out 1).trans rfl; have hcz4_2 : w3.cell? ⟨gb289, 2, none⟩ = some (.slice A0_2 l0_2.length c0_2) := (blk_cell BK289.out 2).trans rfl; have hfz4_0 := blk_frozen BK289.out 0; have hfz4_1 := blk_frozen BK289.out 1; have hfz4_2 := blk_frozen BK289.out 2) | ((with_reducible refine gate_callee (f := 53) rfl ?_); refine goesL_ (some 7) rfl rfl Try.func53 (by kernel_rfl) rfl #[.agg #[.int .i64 a0_0, .int .i64 a0_1, .slice A0_2 l0_2.length c0_2], .int .i64 400] rfl (by (try simp only [List.map_toArray, List.map_cons, List.map_nil]); first | done | rfl | (simp only [List.length_drop, List.length_take]; rfl)) ?_; (with_reducible refine (tenetref24_Size.calls k a0_0 a0_1 _ _ l0_2 400 t290 t291 _ ?side1 ?side2 A2.out).mono ?_); (case side1 => repeat (first | exact (Kd.C_below HR0_2.out HB.out) | (with_reducible refine Kd.C_alloc ?_ _) | (with_reducible refine Kd.C_drewN ?_ _) | (with_reducible refine Kd.C_drew ?_))); (case side2 => exact HC0_2.out); rintro e w5 ⟨rfl, hb⟩; refine ⟨_, rfl, ?_⟩; have n0_ := Aside0.mk (blk_below (g := gb289) (o := .cells #[.int .i64 a0_0, .int .i64 a0_1, .slice A0_2 l0_2.length c0_2] 27 (0, 0)) (by (with_reducible repeat (first | refine blk_drewN ?_ _ | refine blk_drew ?_ | refine blk_alloc ?_ _)); exact BK289.out) hb); have n1_ := Aside0.mk (below_step (by repeat (first | (with_reducible first | exact HB.out | apply below_alloc | apply pw_below_drewN | apply below_drew1 | refine below_set ?_ GE289.out) | exact HB.out)) hb); clear BK289; clear HB; have BK289 := n0_; have HB := n1_; clear n0_ n1_; (try clear hb); (try clear hb2); (try clear hk); (try clear hi)))
 go_ret
 exact ⟨by first | rfl | (simp [errW_none, errW_some] <;> rfl) | (simp [*, errW_none, errW_some] <;> rfl), by repeat (first | (with_reducible first | exact HB.out | apply below_alloc | apply pw_below_drewN | apply below_drew1 | refine below_set ?_ GE289.out) | exact HB.out)⟩
end Go.Proofs.Ythkclagcbjnckaa.Pa


namespace Go.Proofs.Ythkclagcbjnckaa.Pa
open Go.RowKit Go.Proofs.YthkclagcbjnckaaW.PrintWords Go.Proofs.YthkclagcbjnckaaW.PrintLast Go.Proofs.YthkclagcbjnckaaW.PrintMore
attribute [local go_sem] max2_int min2_int max_two min_two max_three min_three max_four min_four
set_option linter.unusedVariables false
set_option linter.unusedSimpArgs false
def tenetref24_Valid.f (k : Nat) (a0_0 : Int) (a0_1 : Int) (l0_2 : List (S27)) : Option (Bool) := (tenetref24_Size.f k a0_0 a0_1 l0_2 60).bind fun bt303 => (if bt303.1 ≤ 60 then (if bt303.2 ≤ 12 then ((tenetref24_formed.f k a0_0 a0_1 l0_2 1000000).bind fun t305 => (some t305)) else (some false)) else (some false))
set_option maxHeartbeats 8000000 in
set_option maxRecDepth 100000 in
theorem tenetref24_Valid.calls (k : Nat) (a0_0 : Int) (a0_1 : Int) (A0_2 : Option Addr) (c0_2 : Nat) (l0_2 : List (S27)) (r : Bool) (w : World) (hr0_2 : Kd.C k27 w A0_2 l0_2.length l0_2) (hc0_2 : l0_2.length ≤ c0_2) (h : tenetref24_Valid.f k a0_0 a0_1 l0_2 = some r) :
  Calls Try.prog 30 #[.agg #[.int .i64 a0_0, .int .i64 a0_1, .slice A0_2 l0_2.length c0_2]] w fun e w' => e = .returned (.bool r) ∧ Below w.heap.size w w' := by
 have hu27 := Try.underlying27
 have HR0_2 := Aside0.mk hr0_2
 have HC0_2 := Aside0.mk hc0_2
 clear hr0_2 hc0_2
 have HB := Aside0.mk (Below.refl w.heap.size w)
 have H : ((tenetref24_Size.f k a0_0 a0_1 l0_2 60).bind fun bt303 => (if bt303.1 ≤ 60 then (if bt303.2 ≤ 12 then ((tenetref24_formed.f k a0_0 a0_1 l0_2 1000000).bind fun t305 => (some t305)) else (some false)) else (some false))) = some r := h
 clear h
 replace H := Option.bind_eq_some_iff.mp H
 obtain ⟨⟨t303, t304⟩, A20, H⟩ := H
 replace H : (if t303 ≤ 60 then (if t304 ≤ 12 then ((tenetref24_formed.f k a0_0 a0_1 l0_2 1000000).bind fun t305 => (some t305)) else (some false)) else (some false)) = some r := H
 have A2 := Aside0.mk A20
 clear A20
 by_cases c3 : t303 ≤ 60
 ·rw [if_pos c3] at H
  have c3b0 : decide (t303 ≤ 60) = true := decide_eq_true c3
  clear c3
  by_cases c4 : t304 ≤ 12
  ·rw [if_pos c4] at H
   have c4b0 : decide (t304 ≤ 12) = true := decide_eq_true c4
   clear c4
   replace H := Option.bind_eq_some_iff.mp H
   obtain ⟨t305, A50, H⟩ := H
   replace H : (some t305) = some r := H
   have A5 := Aside0.mk A50
   clear A50
   obtain rfl := Option.some.inj H
   go_enter Try.func30, Try.ntmps30
   go_wp2_with (first | ((with_reducible refine gate_dst (N := 1) rfl ?_); refine box_event ?hg (N := 1) ?hd (cs := #[.int .i64 a0_0, .int .i64 a0_1, .slice A0_2 l0_2.length c0_2]) (t := 27) ?hr ?_; (case hd => rfl); (case hg => rfl); (case hr => first | (go_simp; done) | (go_simp; rfl)); intro gb302 hg w6 hbox hb; have n0_ := Aside0.mk (below_step (by repeat (first | (with_reducible first | exact HB.out | apply below_alloc | apply pw_below_drewN | apply below_drew1) | exact HB.out)) hb); have n1_ := Aside0.mk (hbox); have n2_ := Aside0.mk ((by rw [hg]; exact (below_size (by repeat (first | (with_reducible first | exact HB.out | apply below_alloc | apply pw_below_drewN | apply below_drew1) | exact HB.out))) : w.heap.size ≤ gb302)); have n3_ := Aside0.mk ((by rw [hg]; exact (below_size (by repeat (first | (with_reducible first | exact HB.out | apply below_alloc | apply pw_below_drewN | apply below_drew1) | exact HB.out))) : w.heap.size ≤ gb302)); clear HB; have HB := n0_; have BK302 := n1_; have GW302 := n2_; have GE302 := n3_; clear n0_ n1_ n2_ n3_; clear hb hbox hg; have hcz7_0 : w6.cell? ⟨gb302, 0, none⟩ = some (.int .i64 a0_0) := (blk_cell BK302.out 0).trans rfl; have hcz7_1 : w6.cell? ⟨gb302, 1, none⟩ = some (.int .i64 a0_1) := (blk_cell BK302.out 1).trans rfl; have hcz7_2 : w6.cell? ⟨gb302, 2, none⟩ = some (.slice A0_2 l0_2.length c0_2) := (blk_cell BK302.out 2).trans rfl; have hfz7_0 := blk_frozen BK302.out 0; have hfz7_1 := blk_frozen BK302.out 1; have hfz7_2 := blk_frozen BK302.out 2) | ((with_reducible refine gate_callee (f := 53) rfl ?_); refine goesL_ (some 7) rfl rfl Try.func53 (by kernel_rfl) rfl #[.agg #[.int .i64 a0_0, .int .i64 a0_1, .slice A0_2 l0_2.length c0_2], .int .i64 60] rfl (by (try simp only [List.map_toArray, List.map_cons, List.map_nil]); first | done | rfl | (simp only [List.length_drop, List.length_take]; rfl)) ?_; (with_reducible refine (tenetref24_Size.calls k a0_0 a0_1 _ _ l0_2 60 t303 t304 _ ?side1 ?side2 A2.out).mono ?_); (case side1 => repeat (first | exact (Kd.C_below HR0_2.out HB.out) | (with_reducible refine Kd.C_alloc ?_ _) | (with_reducible refine Kd.C_drewN ?_ _) | (with_reducible refine Kd.C_drew ?_))); (case side2 => exact HC0_2.out); rintro e w8 ⟨rfl, hb⟩; refine ⟨_, rfl, ?_⟩; have n0_ := Aside0.mk (blk_below (g := gb302) (o := .cells #[.int .i64 a0_0, .int .i64 a0_1, .slice A0_2 l0_2.length c0_2] 27 (0, 0)) (by (with_reducible repeat (first | refine blk_drewN ?_ _ | refine blk_drew ?_ | refine blk_alloc ?_ _)); exact BK302.out) hb); have n1_ := Aside0.mk (below_step (by repeat (first | (with_reducible first | exact HB.out | apply below_alloc | apply pw_below_drewN | apply below_drew1 | refine below_set ?_ GE302.out) | exact HB.out)) hb); clear BK302; clear HB; have BK302 := n0_; have HB := n1_; clear n0_ n1_; (try clear hb); (try clear hb2); (try clear hk); (try clear hi); have hcz9_0 : w8.cell? ⟨gb302, 0, none⟩ = some (.int .i64 a0_0) := (blk_cell BK302.out 0).trans rfl; have hcz9_1 : w8.cell? ⟨gb302, 1, none⟩ = some (.int .i64 a0_1) := (blk_cell BK302.out 1).trans rfl; have hcz9_2 : w8.cell? ⟨gb302, 2, none⟩ = some (.slice A0_2 l0_2.length c0_2) := (blk_cell BK302.out 2).trans rfl; have hfz9_0 := blk_frozen BK302.out 0; have hfz9_1 := blk_frozen BK302.out 1; have hfz9_2 := blk_frozen BK302.out 2) | (go_at_call 71; (with_reducible refine (tenetref24_formed.calls k a0_0 a0_1 _ _ l0_2 1000000 t305 _ ?side1 ?side2 A5.out).mono ?_); (case side1 => repeat (first | exact (Kd.C_below HR0_2.out HB.out) | (with_reducible refine Kd.C_alloc ?_ _) | (with_reducible refine Kd.C_drewN ?_ _) | (with_reducible refine Kd.C_drew ?_))); (case side2 => exact HC0_2.out); rintro e w10 ⟨rfl, hb⟩; have n0_ := Aside0.mk (blk_below (g := gb302) (o := .cells #[.int .i64 a0_0, .int .i64 a0_1, .slice A0_2 l0_2.length c0_2] 27 (0, 0)) (by (with_reducible repeat (first | refine blk_drewN ?_ _ | refine blk_drew ?_ | refine blk_alloc ?_ _)); exact BK302.out) hb); have n1_ := Aside0.mk (below_step (by repeat (first | (with_reducible first | exact HB.out | apply below_alloc | apply pw_below_drewN | apply below_drew1 | refine below_set ?_ GE302.out) | exact HB.out)) hb); clear BK302; clear HB; have BK302 := n0_; have HB := n1_; clear n0_ n1_; (try clear hb); (try clear hb2); (try clear hk); (try clear hi)))
   go_ret
   exact ⟨by first | rfl | (simp [errW_none, errW_some] <;> rfl) | (simp [*, errW_none, errW_some] <;> rfl), by repeat (first | (with_reducible first | exact HB.out | apply below_alloc | apply pw_below_drewN | apply below_drew1 | refine below_set ?_ GE302.out) | exact HB.out)⟩
  ·rw [if_neg c4] at H
   have c4b0 : decide (t304 ≤ 12) = false := decide_eq_false c4
   clear c4
   obtain rfl := Option.some.inj H
   go_enter Try.func30, Try.ntmps30
   go_wp2_with (first | ((with_reducible refine gate_dst (N := 1) rfl ?_); refine box_event ?hg (N := 1) ?hd (cs := #[.int .i64 a0_0, .int .i64 a0_1, .slice A0_2 l0_2.length c0_2]) (t := 27) ?hr ?_; (case hd => rfl); (case hg => rfl); (case hr => first | (go_simp; done) | (go_simp; rfl)); intro gb302 hg w11 hbox hb; have n0_ := Aside0.mk (below_step (by repeat (first | (with_reducible first | exact HB.out | apply below_alloc | apply pw_below_drewN | apply below_drew1) | exact HB.out)) hb); have n1_ := Aside0.mk (hbox); have n2_ := Aside0.mk ((by rw [hg]; exact (below_size (by repeat (first | (with_reducible first | exact HB.out | apply below_alloc | apply pw_below_drewN | apply below_drew1) | exact HB.out))) : w.heap.size ≤ gb302)); have n3_ := Aside0.mk ((by rw [hg]; exact (below_size (by repeat (first | (with_reducible first | exact HB.out | apply below_alloc | apply pw_below_drewN | apply below_drew1) | exact HB.out))) : w.heap.size ≤ gb302)); clear HB; have HB := n0_; have BK302 := n1_; have GW302 := n2_; have GE302 := n3_; clear n0_ n1_ n2_ n3_; clear hb hbox hg; have hcz12_0 : w11.cell? ⟨gb302, 0, none⟩ = some (.int .i64 a0_0) := (blk_cell BK302.out 0).trans rfl; have hcz12_1 : w11.cell? ⟨gb302, 1, none⟩ = some (.int .i64 a0_1) := (blk_cell BK302.out 1).trans rfl; have hcz12_2 : w11.cell? ⟨gb302, 2, none⟩ = some (.slice A0_2 l0_2.length c0_2) := (blk_cell BK302.out 2).trans rfl; have hfz12_0 := blk_frozen BK302.out 0; have hfz12_1 := blk_frozen BK302.out 1; have hfz12_2 := blk_frozen BK302.out 2) | ((with_reducible refine gate_callee (f := 53) rfl ?_); refine goesL_ (some 7) rfl rfl Try.func53 (by kernel_rfl) rfl #[.agg #[.int .i64 a0_0, .int .i64 a0_1, .slice A0_2 l0_2.length c0_2], .int .i64 60] rfl (by (try simp only [List.map_toArray, List.map_cons, List.map_nil]); first | done | rfl | (simp only [List.length_drop, List.length_take]; rfl)) ?_; (with_reducible refine (tenetref24_Size.calls k a0_0 a0_1 _ _ l0_2 60 t303 t304 _ ?side1 ?side2 A2.out).mono ?_); (case side1 => repeat (first | exact (Kd.C_below HR0_2.out HB.out) | (with_reducible refine Kd.C_alloc ?_ _) | (with_reducible refine Kd.C_drewN ?_ _) | (with_reducible refine Kd.C_drew ?_))); (case side2 => exact HC0_2.out); rintro e w13 ⟨rfl, hb⟩; refine ⟨_, rfl, ?_⟩; have n0_ := Aside0.mk (blk_below (g := gb302) (o := .cells #[.int .i64 a0_0, .int .i64 a0_1, .slice A0_2 l0_2.length c0_2] 27 (0, 0)) (by (with_reducible repeat (first | refine blk_drewN ?_ _ | refine blk_drew ?_ | refine blk_alloc ?_ _)); exact BK302.out) hb); have n1_ := Aside0.mk (below_step (by repeat (first | (with_reducible first | exact HB.out | apply below_alloc | apply pw_below_drewN | apply below_drew1 | refine below_set ?_ GE302.out) | exact HB.out)) hb); clear BK302; clear HB; have BK302 := n0_; have HB := n1_; clear n0_ n1_; (try clear hb); (try clear hb2); (try clear hk); (try clear hi)))
   go_ret
   exact ⟨by first | rfl | (simp [errW_none, errW_some] <;> rfl) | (simp [*, errW_none, errW_some] <;> rfl), by repeat (first | (with_reducible first | exact HB.out | apply below_alloc | apply pw_below_drewN | apply below_drew1 | refine below_set ?_ GE302.out) | exact HB.out)⟩
 ·rw [if_neg c3] at H
  have c3b0 : decide (t303 ≤ 60) = false := decide_eq_false c3
  clear c3
  obtain rfl := Option.some.inj H
  go_enter Try.func30, Try.ntmps30
  go_wp2_with (first | ((with_reducible refine gate_dst (N := 1) rfl ?_); refine box_event ?hg (N := 1) ?hd (cs := #[.int .i64 a0_0, .int .i64 a0_1, .slice A0_2 l0_2.length c0_2]) (t := 27) ?hr ?_; (case hd => rfl); (case hg => rfl); (case hr => first | (go_simp; done) | (go_simp; rfl)); intro gb302 hg w14 hbox hb; have n0_ := Aside0.mk (below_step (by repeat (first | (with_reducible first | exact HB.out | apply below_alloc | apply pw_below_drewN | apply below_drew1) | exact HB.out)) hb); have n1_ := Aside0.mk (hbox); have n2_ := Aside0.mk ((by rw [hg]; exact (below_size (by repeat (first | (with_reducible first | exact HB.out | apply below_alloc | apply pw_below_drewN | apply below_drew1) | exact HB.out))) : w.heap.size ≤ gb302)); have n3_ := Aside0.mk ((by rw [hg]; exact (below_size (by repeat (first | (with_reducible first | exact HB.out | apply below_alloc | apply pw_below_drewN | apply below_drew1) | exact HB.out))) : w.heap.size ≤ gb302)); clear HB; have HB := n0_; have BK302 := n1_; have GW302 := n2_; have GE302 := n3_; clear n0_ n1_ n2_ n3_; clear hb hbox hg; have hcz15_0 : w14.cell? ⟨gb302, 0, none⟩ = some (.int .i64 a0_0) := (blk_cell BK302.out 0).trans rfl; have hcz15_1 : w14.cell? ⟨gb302, 1, none⟩ = some (.int .i64 a0_1) := (blk_cell BK302.out 1).trans rfl; have hcz15_2 : w14.cell? ⟨gb302, 2, none⟩ = some (.slice A0_2 l0_2.length c0_2) := (blk_cell BK302.out 2).trans rfl; have hfz15_0 := blk_frozen BK302.out 0; have hfz15_1 := blk_frozen BK302.out 1; have hfz15_2 := blk_frozen BK302.out 2) | ((with_reducible refine gate_callee (f := 53) rfl ?_); refine goesL_ (some 7) rfl rfl Try.func53 (by kernel_rfl) rfl #[.agg #[.int .i64 a0_0, .int .i64 a0_1, .slice A0_2 l0_2.length c0_2], .int .i64 60] rfl (by (try simp only [List.map_toArray, List.map_cons, List.map_nil]); first | done | rfl | (simp only [List.length_drop, List.length_take]; rfl)) ?_; (with_reducible refine (tenetref24_Size.calls k a0_0 a0_1 _ _ l0_2 60 t303 t304 _ ?side1 ?side2 A2.out).mono ?_); (case side1 => repeat (first | exact (Kd.C_below HR0_2.out HB.out) | (with_reducible refine Kd.C_alloc ?_ _) | (with_reducible refine Kd.C_drewN ?_ _) | (with_reducible refine Kd.C_drew ?_))); (case side2 => exact HC0_2.out); rintro e w16 ⟨rfl, hb⟩; refine ⟨_, rfl, ?_⟩; have n0_ := Aside0.mk (blk_below (g := gb302) (o := .cells #[.int .i64 a0_0, .int .i64 a0_1, .slice A0_2 l0_2.length c0_2] 27 (0, 0)) (by (with_reducible repeat (first | refine blk_drewN ?_ _ | refine blk_drew ?_ | refine blk_alloc ?_ _)); exact BK302.out) hb); have n1_ := Aside0.mk (below_step (by repeat (first | (with_reducible first | exact HB.out | apply below_alloc | apply pw_below_drewN | apply below_drew1 | refine below_set ?_ GE302.out) | exact HB.out)) hb); clear BK302; clear HB; have BK302 := n0_; have HB := n1_; clear n0_ n1_; (try clear hb); (try clear hb2); (try clear hk); (try clear hi)))
  go_ret
  exact ⟨by first | rfl | (simp [errW_none, errW_some] <;> rfl) | (simp [*, errW_none, errW_some] <;> rfl), by repeat (first | (with_reducible first | exact HB.out | apply below_alloc | apply pw_below_drewN | apply below_drew1 | refine below_set ?_ GE302.out) | exact HB.out)⟩
end Go.Proofs.Ythkclagcbjnckaa.Pa


namespace Go.Proofs.Ythkclagcbjnckaa.Pa
open Go.RowKit Go.Proofs.YthkclagcbjnckaaW.PrintWords Go.Proofs.YthkclagcbjnckaaW.PrintLast Go.Proofs.YthkclagcbjnckaaW.PrintMore
attribute [local go_sem] max2_int min2_int max_two min_two max_three min_three max_four min_four
set_option linter.unusedVariables false
set_option linter.unusedSimpArgs false
mutual
def tenetref24_EqMonos.l0 : Nat → List (S60) → List (S60) → Int → Option (Bool)
 | 0, _, _, _ => none
 | k + 1, x0, x1, x5 => if x5 < (x0.length : Int) then (if 0 ≤ x5 then (if x5 < (x1.length : Int) then (if ((rd_T60 x0 x5).f0) = ((rd_T60 x1 x5).f0) then (tenetref24_EqMonos.j1 k x0 x1 x5 ((((rd_T60 x0 x5).f1).length : Int) != (((rd_T60 x1 x5).f1).length : Int))) else (tenetref24_EqMonos.j1 k x0 x1 x5 true)) else (none)) else (none)) else (some true)
def tenetref24_EqMonos.j1 : Nat → List (S60) → List (S60) → Int → Bool → Option (Bool)
 | 0, _, _, _, _ => none
 | k + 1, x0, x1, x5, x43 => if x43 = true then (some false) else (tenetref24_EqMonos.l1 k x0 x1 x5 0)
def tenetref24_EqMonos.l1 : Nat → List (S60) → List (S60) → Int → Int → Option (Bool)
 | 0, _, _, _, _ => none
 | k + 1, x0, x1, x5, x6 => if 0 ≤ x5 then (if x5 < (x0.length : Int) then (if x6 < (((rd_T60 x0 x5).f1).length : Int) then (if 0 ≤ x6 then (if x5 < (x1.length : Int) then (if x6 < (((rd_T60 x1 x5).f1).length : Int) then (if (rd ((rd_T60 x0 x5).f1) x6) = (rd ((rd_T60 x1 x5).f1) x6) then (tenetref24_EqMonos.l1 k x0 x1 x5 (wrap64 (x6 + 1))) else (some false)) else (none)) else (none)) else (none)) else (tenetref24_EqMonos.l0 k x0 x1 (wrap64 (x5 + 1)))) else (none)) else (none)
end
def tenetref24_EqMonos.f (k : Nat) (l0 : List (S60)) (l1 : List (S60)) : Option (Bool) := if (l0.length : Int) = (l1.length : Int) then (tenetref24_EqMonos.l0 k l0 l1 0) else (some false)
set_option maxHeartbeats 8000000 in
set_option maxRecDepth 100000 in
theorem tenetref24_EqMonos.calls (k : Nat) (A0 : Option Addr) (c0 : Nat) (l0 : List (S60)) (A1 : Option Addr) (c1 : Nat) (l1 : List (S60)) (r : Bool) (w : World) (hr0 : Kd.C k60 w A0 l0.length l0) (hc0 : l0.length ≤ c0) (hr1 : Kd.C k60 w A1 l1.length l1) (hc1 : l1.length ≤ c1) (h : tenetref24_EqMonos.f k l0 l1 = some r) :
  Calls Try.prog 31 #[.slice A0 l0.length c0, .slice A1 l1.length c1] w fun e w' => e = .returned (.bool r) ∧ Drawn0 w w' := by
 have HR0 := Aside0.mk hr0
 have HC0 := Aside0.mk hc0
 clear hr0 hc0
 have HR1 := Aside0.mk hr1
 have HC1 := Aside0.mk hc1
 clear hr1 hc1
 have H : (if (l0.length : Int) = (l1.length : Int) then (tenetref24_EqMonos.l0 k l0 l1 0) else (some false)) = some r := h
 clear h
 by_cases c3 : (l0.length : Int) = (l1.length : Int)
 ·rw [if_pos c3] at H
  have c3b0 : ((l0.length : Int) == (l1.length : Int)) = true := beq_iff_eq.mpr c3
  have c3b1 : ((l0.length : Int) != (l1.length : Int)) = false := bne_eq_false_iff_eq.mpr c3
  have c3b2 : (l0.length == l1.length) = true := by first | simpa using c3 | (simp at c3 ⊢; omega)
  clear c3
  have H' := Aside0.mk H
  clear H
  go_enter Try.func31, Try.ntmps31
  go_wp2
  repeat (go_quiet (fail); try go_wp2)
  go_loopg [5] k (fun kq v5 w' => ∃ (x5_1 : Int), v5 = .int .i64 x5_1 ∧ Aside0 (tenetref24_EqMonos.l0 kq l0 l1 x5_1 = some r) ∧ Aside0 (kq ≤ k) ∧ Drawn0 w w')
  case atStart => exact ⟨(0), (by first | rfl | (simp; done) | (simp [*]; done)), H', ⟨Nat.le_refl _⟩, by repeat (first | exact Drawn0.refl _ | apply Drawn0.step)⟩
  case round =>
   clear H'
   try clear c1
   try clear p2
   try clear c3
   try clear c3b0
   try clear c3b1
   try clear c3b2
   obtain ⟨x5_1, rfl, HA, HK1, ⟨m1, rfl⟩⟩ := hrel
   cases gk with
   | zero => exact absurd HA.out (by simp [tenetref24_EqMonos.l0])
   | succ k1 =>
    have H := HA.out
    clear HA
    simp only [tenetref24_EqMonos.l0] at H
    by_cases c4 : x5_1 < (l0.length : Int)
    ·rw [if_pos c4] at H
     have c4b0 : decide (x5_1 < (l0.length : Int)) = true := decide_eq_true c4
     clear c4
     have HC5 := Aside0.mk H
     clear H
     go_upto_region 6 with (fail)
     repeat (go_quiet (fail); go_upto_region 6 with (fail))
     go_cut [43] (fun v43 wc => ∃ (kq : Nat) (x43_4 : Bool), v43 = .bool x43_4 ∧ Aside0 (tenetref24_EqMonos.j1 kq l0 l1 x5_1 x43_4 = some r) ∧ Aside0 (kq ≤ k1) ∧ Drawn0 w wc)
     case first =>
      have H := HC5.out
      clear HC5
      by_cases c6 : 0 ≤ x5_1
      ·rw [if_pos c6] at H
       have c6b0 : decide (0 ≤ x5_1) = true := decide_eq_true c6
       clear c6
       (first | rw [c6b0] | (simp only [i64_w, i32_w]; rw [c6b0]) | skip)
       by_cases c7 : x5_1 < (l1.length : Int)
       ·rw [if_pos c7] at H
        have c7b0 : decide (x5_1 < (l1.length : Int)) = true := decide_eq_true c7
        clear c7
        by_cases c8 : ((rd_T60 l0 x5_1).f0) = ((rd_T60 l1 x5_1).f0)
        ·rw [if_pos c8] at H
         have c8b0 : (((rd_T60 l0 x5_1).f0) == ((rd_T60 l1 x5_1).f0)) = true := beq_iff_eq.mpr c8
         have c8b1 : (((rd_T60 l0 x5_1).f0) != ((rd_T60 l1 x5_1).f0)) = false := bne_eq_false_iff_eq.mpr c8
         clear c8
         have H' := Aside0.mk H
         clear H
         have p306 : 0 ≤ (x5_1 : Int) := of_decide_eq_true (by first | (with_reducible assumption) | assumption)
         have q306 : x5_1 < (l0.length : Int) := of_decide_eq_true (by first | (with_reducible assumption) | assumption)
         obtain ⟨ad306, A306_1, c306_1, e306, hx306_0, hx306_1, hl306_1, hi306_1⟩ := at_T60 HR0.out x5_1 p306 q306
         cases e306
         have HR306_1 := Aside0.mk hi306_1
         have HC306_1 := Aside0.mk hl306_1
         clear hi306_1 hl306_1
         replace p306 := eq_true p306
         replace q306 := eq_true q306
         have p307 : 0 ≤ (x5_1 : Int) := of_decide_eq_true (by first | (with_reducible assumption) | assumption)
         have q307 : x5_1 < (l1.length : Int) := of_decide_eq_true (by first | (with_reducible assumption) | assumption)
         obtain ⟨ad307, A307_1, c307_1, e307, hx307_0, hx307_1, hl307_1, hi307_1⟩ := at_T60 HR1.out x5_1 p307 q307
         cases e307
         have HR307_1 := Aside0.mk hi307_1
         have HC307_1 := Aside0.mk hl307_1
         clear hi307_1 hl307_1
         replace p307 := eq_true p307
         replace q307 := eq_true q307
         have p308 : 0 ≤ (x5_1 : Int) := of_decide_eq_true (by first | (with_reducible assumption) | assumption)
         have q308 : x5_1 < (l0.length : Int) := of_decide_eq_true (by first | (with_reducible assumption) | assumption)
         obtain ⟨ad308, A308_1, c308_1, e308, hx308_0, hx308_1, hl308_1, hi308_1⟩ := at_T60 HR0.out x5_1 p308 q308
         obtain rfl : ad306 = ad308 := (by injection e308)
         have HR308_1 := Aside0.mk hi308_1
         have HC308_1 := Aside0.mk hl308_1
         clear hi308_1 hl308_1
         replace p308 := eq_true p308
         replace q308 := eq_true q308
         have ea_ := Option.some.inj (hx306_1.symm.trans hx308_1)
         injection ea_ with ea_ en_ ec_
         subst ea_
         subst ec_
         clear en_
         have p309 : 0 ≤ (x5_1 : Int) := of_decide_eq_true (by first | (with_reducible assumption) | assumption)
         have q309 : x5_1 < (l1.length : Int) := of_decide_eq_true (by first | (with_reducible assumption) | assumption)
         obtain ⟨ad309, A309_1, c309_1, e309, hx309_0, hx309_1, hl309_1, hi309_1⟩ := at_T60 HR1.out x5_1 p309 q309
         obtain rfl : ad307 = ad309 := (by injection e309)
         have HR309_1 := Aside0.mk hi309_1
         have HC309_1 := Aside0.mk hl309_1
         clear hi309_1 hl309_1
         replace p309 := eq_true p309
         replace q309 := eq_true q309
         have ea_ := Option.some.inj (hx307_1.symm.trans hx309_1)
         injection ea_ with ea_ en_ ec_
         subst ea_
         subst ec_
         clear en_
         go_wp2
         repeat (go_quiet (fail); try go_wp2)
         go_meet
         case rel => exact ⟨_, (((((rd_T60 l0 x5_1).f1).length : Int) != (((rd_T60 l1 x5_1).f1).length : Int))), (by first | rfl | (simp; done) | (simp [*]; done)), H', ⟨by have := HK1.out; first | omega | exact Nat.le_refl _⟩, by repeat (first | exact Drawn0.refl _ | apply Drawn0.step)⟩
        ·rw [if_neg c8] at H
         have c8b0 : (((rd_T60 l0 x5_1).f0) == ((rd_T60 l1 x5_1).f0)) = false := beq_eq_false_iff_ne.mpr c8
         have c8b1 : (((rd_T60 l0 x5_1).f0) != ((rd_T60 l1 x5_1).f0)) = true := bne_iff_ne.mpr c8
         have H' := Aside0.mk H
         clear H
         have p306 : 0 ≤ (x5_1 : Int) := of_decide_eq_true (by first | (with_reducible assumption) | assumption)
         have q306 : x5_1 < (l0.length : Int) := of_decide_eq_true (by first | (with_reducible assumption) | assumption)
         obtain ⟨ad306, A306_1, c306_1, e306, hx306_0, hx306_1, hl306_1, hi306_1⟩ := at_T60 HR0.out x5_1 p306 q306
         cases e306
         have HR306_1 := Aside0.mk hi306_1
         have HC306_1 := Aside0.mk hl306_1
         clear hi306_1 hl306_1
         replace p306 := eq_true p306
         replace q306 := eq_true q306
         have p307 : 0 ≤ (x5_1 : Int) := of_decide_eq_true (by first | (with_reducible assumption) | assumption)
         have q307 : x5_1 < (l1.length : Int) := of_decide_eq_true (by first | (with_reducible assumption) | assumption)
         obtain ⟨ad307, A307_1, c307_1, e307, hx307_0, hx307_1, hl307_1, hi307_1⟩ := at_T60 HR1.out x5_1 p307 q307
         cases e307
         have HR307_1 := Aside0.mk hi307_1
         have HC307_1 := Aside0.mk hl307_1
         clear hi307_1 hl307_1
         replace p307 := eq_true p307
         replace q307 := eq_true q307
         go_wp2
         repeat (go_quiet (fail); try go_wp2)
         go_meet
         case rel => exact ⟨_, (true), (by first | rfl | (simp; done) | (simp [*]; done)), H', ⟨by have := HK1.out; first | omega | exact Nat.le_refl _⟩, by repeat (first | exact Drawn0.refl _ | apply Drawn0.step)⟩
       ·rw [if_neg c7] at H
        exact absurd H (by simp)
      ·rw [if_neg c6] at H
       exact absurd H (by simp)
     case rest =>
      clear HC5
      try clear c1
      try clear p2
      try clear c3
      try clear c3b0
      try clear c3b1
      try clear c3b2
      try clear p3
      try clear q3
      try clear hx3
      try clear c4
      try clear c4b0
      try clear c6
      try clear c6b0
      try clear c7
      try clear c7b0
      try clear c8
      try clear c8b0
      try clear c8b1
      try clear hx306_0
      try clear hx306_1
      try clear hx307_0
      try clear hx307_1
      try clear hx308_0
      try clear hx308_1
      try clear hx309_0
      try clear hx309_1
      try clear p2
      try clear p306
      try clear p307
      try clear p308
      try clear p309
      try clear q306
      try clear q307
      try clear q308
      try clear q309
      obtain ⟨kq, x43_4, rfl, HA, HJ4, ⟨mc4, rfl⟩⟩ := hcut
      cases kq with
      | zero => exact absurd HA.out (by simp [tenetref24_EqMonos.j1])
      | succ kj4 =>
       have H := HA.out
       clear HA
       simp only [tenetref24_EqMonos.j1] at H
       by_cases c9 : x43_4 = true
       ·subst c9
        have H1 : (some false) = some r := by rw [if_pos rfl] at H; exact H
        clear H
        have H := H1
        clear H1
        obtain rfl := Option.some.inj H
        go_wp2
        repeat (go_quiet (fail); try go_wp2)
        go_ret
        exact ⟨by first | rfl | (simp; done) | (simp [*]; done), by repeat (first | exact Drawn0.refl _ | apply Drawn0.step)⟩
       ·replace c9 := Bool.eq_false_iff.mpr c9
        subst c9
        have H1 : (tenetref24_EqMonos.l1 kj4 l0 l1 x5_1 0) = some r := by rw [if_neg (show ¬ (false = true) by decide)] at H; exact H
        clear H
        have H := H1
        clear H1
        have H' := Aside0.mk H
        clear H
        go_wp2
        repeat (go_quiet (fail); try go_wp2)
        go_loopg [6] kj4 (fun kq v6 w' => ∃ (x6_3 : Int), v6 = .int .i64 x6_3 ∧ Aside0 (tenetref24_EqMonos.l1 kq l0 l1 x5_1 x6_3 = some r) ∧ Aside0 (kq ≤ kj4) ∧ Drawn0 w w')
        case atStart => exact ⟨(0), (by first | rfl | (simp; done) | (simp [*]; done)), H', ⟨Nat.le_refl _⟩, by repeat (first | exact Drawn0.refl _ | apply Drawn0.step)⟩
        case round =>
         clear H'
         try clear c1
         try clear p2
         try clear c3
         try clear c3b0
         try clear c3b1
         try clear c3b2
         try clear p3
         try clear q3
         try clear hx3
         try clear c4
         try clear c4b0
         try clear c6
         try clear c6b0
         try clear c7
         try clear c7b0
         try clear c8
         try clear c8b0
         try clear c8b1
         try clear c9
         try clear hx306_0
         try clear hx306_1
         try clear hx307_0
         try clear hx307_1
         try clear hx308_0
         try clear hx308_1
         try clear hx309_0
         try clear hx309_1
         try clear p2
         try clear p3
         try clear p306
         try clear p307
         try clear p308
         try clear p309
         try clear q3
         try clear q306
         try clear q307
         try clear q308
         try clear q309
         obtain ⟨x6_3, rfl, HA, HK3, ⟨m3, rfl⟩⟩ := hrel
         cases gk with
         | zero => exact absurd HA.out (by simp [tenetref24_EqMonos.l1])
         | succ k3 =>
          have H := HA.out
          clear HA
          simp only [tenetref24_EqMonos.l1] at H
          by_cases c10 : 0 ≤ x5_1
          ·rw [if_pos c10] at H
           have c10b0 : decide (0 ≤ x5_1) = true := decide_eq_true c10
           clear c10
           by_cases c11 : x5_1 < (l0.length : Int)
           ·rw [if_pos c11] at H
            have c11b0 : decide (x5_1 < (l0.length : Int)) = true := decide_eq_true c11
            clear c11
            by_cases c12 : x6_3 < (((rd_T60 l0 x5_1).f1).length : Int)
            ·rw [if_pos c12] at H
             have c12b0 : decide (x6_3 < (((rd_T60 l0 x5_1).f1).length : Int)) = true := decide_eq_true c12
             clear c12
             by_cases c13 : 0 ≤ x6_3
             ·rw [if_pos c13] at H
              have c13b0 : decide (0 ≤ x6_3) = true := decide_eq_true c13
              clear c13
              by_cases c14 : x5_1 < (l1.length : Int)
              ·rw [if_pos c14] at H
               have c14b0 : decide (x5_1 < (l1.length : Int)) = true := decide_eq_true c14
               clear c14
               by_cases c15 : x6_3 < (((rd_T60 l1 x5_1).f1).length : Int)
               ·rw [if_pos c15] at H
                have c15b0 : decide (x6_3 < (((rd_T60 l1 x5_1).f1).length : Int)) = true := decide_eq_true c15
                clear c15
                by_cases c16 : (rd ((rd_T60 l0 x5_1).f1) x6_3) = (rd ((rd_T60 l1 x5_1).f1) x6_3)
                ·rw [if_pos c16] at H
                 have c16b0 : ((rd ((rd_T60 l0 x5_1).f1) x6_3) == (rd ((rd_T60 l1 x5_1).f1) x6_3)) = true := beq_iff_eq.mpr c16
                 have c16b1 : ((rd ((rd_T60 l0 x5_1).f1) x6_3) != (rd ((rd_T60 l1 x5_1).f1) x6_3)) = false := bne_eq_false_iff_eq.mpr c16
                 clear c16
                 have H' := Aside0.mk H
                 clear H
                 have p310 : 0 ≤ (x5_1 : Int) := of_decide_eq_true (by first | (with_reducible assumption) | assumption)
                 have q310 : x5_1 < (l0.length : Int) := of_decide_eq_true (by first | (with_reducible assumption) | assumption)
                 obtain ⟨ad310, A310_1, c310_1, e310, hx310_0, hx310_1, hl310_1, hi310_1⟩ := at_T60 HR0.out x5_1 p310 q310
                 cases e310
                 have HR310_1 := Aside0.mk hi310_1
                 have HC310_1 := Aside0.mk hl310_1
                 clear hi310_1 hl310_1
                 replace p310 := eq_true p310
                 replace q310 := eq_true q310
                 have p311 : 0 ≤ (x5_1 : Int) := of_decide_eq_true (by first | (with_reducible assumption) | assumption)
                 have q311 : x5_1 < (l0.length : Int) := of_decide_eq_true (by first | (with_reducible assumption) | assumption)
                 obtain ⟨ad311, A311_1, c311_1, e311, hx311_0, hx311_1, hl311_1, hi311_1⟩ := at_T60 HR0.out x5_1 p311 q311
                 obtain rfl : ad310 = ad311 := (by injection e311)
                 have HR311_1 := Aside0.mk hi311_1
                 have HC311_1 := Aside0.mk hl311_1
                 clear hi311_1 hl311_1
                 replace p311 := eq_true p311
                 replace q311 := eq_true q311
                 have ea_ := Option.some.inj (hx310_1.symm.trans hx311_1)
                 injection ea_ with ea_ en_ ec_
                 subst ea_
                 subst ec_
                 clear en_
                 have p312 : 0 ≤ (x6_3 : Int) := of_decide_eq_true (by first | (with_reducible assumption) | assumption)
                 have q312 : x6_3 < (((rd_T60 l0 x5_1).f1).length : Int) := of_decide_eq_true (by first | (with_reducible assumption) | assumption)
                 obtain ⟨ad312, e312, hx312_0⟩ := Kd.at_int HR311_1.out x6_3 p312 q312
                 cases e312
                 replace p312 := eq_true p312
                 replace q312 := eq_true q312
                 have p313 : 0 ≤ (x5_1 : Int) := of_decide_eq_true (by first | (with_reducible assumption) | assumption)
                 have q313 : x5_1 < (l1.length : Int) := of_decide_eq_true (by first | (with_reducible assumption) | assumption)
                 obtain ⟨ad313, A313_1, c313_1, e313, hx313_0, hx313_1, hl313_1, hi313_1⟩ := at_T60 HR1.out x5_1 p313 q313
                 cases e313
                 have HR313_1 := Aside0.mk hi313_1
                 have HC313_1 := Aside0.mk hl313_1
                 clear hi313_1 hl313_1
                 replace p313 := eq_true p313
                 replace q313 := eq_true q313
                 have p314 : 0 ≤ (x6_3 : Int) := of_decide_eq_true (by first | (with_reducible assumption) | assumption)
                 have q314 : x6_3 < (((rd_T60 l1 x5_1).f1).length : Int) := of_decide_eq_true (by first | (with_reducible assumption) | assumption)
                 obtain ⟨ad314, e314, hx314_0⟩ := Kd.at_int HR313_1.out x6_3 p314 q314
                 cases e314
                 replace p314 := eq_true p314
                 replace q314 := eq_true q314
                 go_wp2
                 repeat (go_quiet (fail); try go_wp2)
                 go_roundg k3
                 case measure => have := HK1.out; have := HJ4.out; have := HK3.out; omega
                 case rel => exact ⟨(wrap64 (x6_3 + 1)), (by first | rfl | (simp; done) | (simp [*]; done)), H', ⟨by have := HK1.out; have := HJ4.out; have := HK3.out; omega⟩, by repeat (first | exact Drawn0.refl _ | apply Drawn0.step)⟩
                ·rw [if_neg c16] at H
                 have c16b0 : ((rd ((rd_T60 l0 x5_1).f1) x6_3) == (rd ((rd_T60 l1 x5_1).f1) x6_3)) = false := beq_eq_false_iff_ne.mpr c16
                 have c16b1 : ((rd ((rd_T60 l0 x5_1).f1) x6_3) != (rd ((rd_T60 l1 x5_1).f1) x6_3)) = true := bne_iff_ne.mpr c16
                 obtain rfl := Option.some.inj H
                 have p310 : 0 ≤ (x5_1 : Int) := of_decide_eq_true (by first | (with_reducible assumption) | assumption)
                 have q310 : x5_1 < (l0.length : Int) := of_decide_eq_true (by first | (with_reducible assumption) | assumption)
                 obtain ⟨ad310, A310_1, c310_1, e310, hx310_0, hx310_1, hl310_1, hi310_1⟩ := at_T60 HR0.out x5_1 p310 q310
                 cases e310
                 have HR310_1 := Aside0.mk hi310_1
                 have HC310_1 := Aside0.mk hl310_1
                 clear hi310_1 hl310_1
                 replace p310 := eq_true p310
                 replace q310 := eq_true q310
                 have p311 : 0 ≤ (x5_1 : Int) := of_decide_eq_true (by first | (with_reducible assumption) | assumption)
                 have q311 : x5_1 < (l0.length : Int) := of_decide_eq_true (by first | (with_reducible assumption) | assumption)
                 obtain ⟨ad311, A311_1, c311_1, e311, hx311_0, hx311_1, hl311_1, hi311_1⟩ := at_T60 HR0.out x5_1 p311 q311
                 obtain rfl : ad310 = ad311 := (by injection e311)
                 have HR311_1 := Aside0.mk hi311_1
                 have HC311_1 := Aside0.mk hl311_1
                 clear hi311_1 hl311_1
                 replace p311 := eq_true p311
                 replace q311 := eq_true q311
                 have ea_ := Option.some.inj (hx310_1.symm.trans hx311_1)
                 injection ea_ with ea_ en_ ec_
                 subst ea_
                 subst ec_
                 clear en_
                 have p312 : 0 ≤ (x6_3 : Int) := of_decide_eq_true (by first | (with_reducible assumption) | assumption)
                 have q312 : x6_3 < (((rd_T60 l0 x5_1).f1).length : Int) := of_decide_eq_true (by first | (with_reducible assumption) | assumption)
                 obtain ⟨ad312, e312, hx312_0⟩ := Kd.at_int HR311_1.out x6_3 p312 q312
                 cases e312
                 replace p312 := eq_true p312
                 replace q312 := eq_true q312
                 have p313 : 0 ≤ (x5_1 : Int) := of_decide_eq_true (by first | (with_reducible assumption) | assumption)
                 have q313 : x5_1 < (l1.length : Int) := of_decide_eq_true (by first | (with_reducible assumption) | assumption)
                 obtain ⟨ad313, A313_1, c313_1, e313, hx313_0, hx313_1, hl313_1, hi313_1⟩ := at_T60 HR1.out x5_1 p313 q313
                 cases e313
                 have HR313_1 := Aside0.mk hi313_1
                 have HC313_1 := Aside0.mk hl313_1
                 clear hi313_1 hl313_1
                 replace p313 := eq_true p313
                 replace q313 := eq_true q313
                 have p314 : 0 ≤ (x6_3 : Int) := of_decide_eq_true (by first | (with_reducible assumption) | assumption)
                 have q314 : x6_3 < (((rd_T60 l1 x5_1).f1).length : Int) := of_decide_eq_true (by first | (with_reducible assumption) | assumption)
                 obtain ⟨ad314, e314, hx314_0⟩ := Kd.at_int HR313_1.out x6_3 p314 q314
                 cases e314
                 replace p314 := eq_true p314
                 replace q314 := eq_true q314
                 go_wp2
                 repeat (go_quiet (fail); try go_wp2)
                 go_ret
                 exact ⟨by first | rfl | (simp; done) | (simp [*]; done), by repeat (first | exact Drawn0.refl _ | apply Drawn0.step)⟩
               ·rw [if_neg c15] at H
                exact absurd H (by simp)
              ·rw [if_neg c14] at H
               exact absurd H (by simp)
             ·rw [if_neg c13] at H
              exact absurd H (by simp)
            ·rw [if_neg c12] at H
             have c12b0 : decide (x6_3 < (((rd_T60 l0 x5_1).f1).length : Int)) = false := decide_eq_false c12
             clear c12
             have H' := Aside0.mk H
             clear H
             have p310 : 0 ≤ (x5_1 : Int) := of_decide_eq_true (by first | (with_reducible assumption) | assumption)
             have q310 : x5_1 < (l0.length : Int) := of_decide_eq_true (by first | (with_reducible assumption) | assumption)
             obtain ⟨ad310, A310_1, c310_1, e310, hx310_0, hx310_1, hl310_1, hi310_1⟩ := at_T60 HR0.out x5_1 p310 q310
             cases e310
             have HR310_1 := Aside0.mk hi310_1
             have HC310_1 := Aside0.mk hl310_1
             clear hi310_1 hl310_1
             replace p310 := eq_true p310
             replace q310 := eq_true q310
             go_wp2
             repeat (go_quiet (fail); try go_wp2)
             go_roundg k3
             case measure => have := HK1.out; have := HJ4.out; have := HK3.out; omega
             case rel => exact ⟨(wrap64 (x5_1 + 1)), (by first | rfl | (simp; done) | (simp [*]; done)), H', ⟨by have := HK1.out; have := HJ4.out; have := HK3.out; omega⟩, by repeat (first | exact Drawn0.refl _ | apply Drawn0.step)⟩
           ·rw [if_neg c11] at H
            exact absurd H (by simp)
          ·rw [if_neg c10] at H
           exact absurd H (by simp)
    ·rw [if_neg c4] at H
     have c4b0 : decide (x5_1 < (l0.length : Int)) = false := decide_eq_false c4
     clear c4
     obtain rfl := Option.some.inj H
     go_wp2
     repeat (go_quiet (fail); try go_wp2)
     go_ret
     exact ⟨by first | rfl | (simp; done) | (simp [*]; done), by repeat (first | exact Drawn0.refl _ | apply Drawn0.step)⟩
 ·rw [if_neg c3] at H
  have c3b0 : ((l0.length : Int) == (l1.length : Int)) = false := beq_eq_false_iff_ne.mpr c3
  have c3b1 : ((l0.length : Int) != (l1.length : Int)) = true := bne_iff_ne.mpr c3
  have c3b2 : (l0.length == l1.length) = false := by first | simpa using c3 | (simp at c3 ⊢; omega)
  obtain rfl := Option.some.inj H
  go_enter Try.func31, Try.ntmps31
  go_wp2
  repeat (go_quiet (fail); try go_wp2)
  go_ret
  exact ⟨by first | rfl | (simp; done) | (simp [*]; done), by repeat (first | exact Drawn0.refl _ | apply Drawn0.step)⟩
end Go.Proofs.Ythkclagcbjnckaa.Pa


namespace Go.Proofs.Ythkclagcbjnckaa.Pa
open Go.RowKit Go.Proofs.YthkclagcbjnckaaW.PrintWords Go.Proofs.YthkclagcbjnckaaW.PrintLast Go.Proofs.YthkclagcbjnckaaW.PrintMore
attribute [local go_sem] max2_int min2_int max_two min_two max_three min_three max_four min_four
set_option linter.unusedVariables false
set_option linter.unusedSimpArgs false
end Go.Proofs.Ythkclagcbjnckaa.Pa


namespace Go.Proofs.Ythkclagcbjnckaa.Pa
open Go.RowKit Go.Proofs.YthkclagcbjnckaaW.PrintWords Go.Proofs.YthkclagcbjnckaaW.PrintLast Go.Proofs.YthkclagcbjnckaaW.PrintMore
attribute [local go_sem] max2_int min2_int max_two min_two max_three min_three max_four min_four
set_option linter.unusedVariables false
set_option linter.unusedSimpArgs false
def tenetref24_copied.l0 : Nat → List (S60) → List (S60) → Int → Option ((List (S60)))
 | 0, _, _, _ => none
 | k + 1, x0, x3, x4 => if x4 < (x0.length : Int) then (if 0 ≤ x4 then ((some (([] : List Int) : List Int)).bind fun y581 => (if y581.length + ((rd_T60 x0 x4).f1).length < 17592186044416 then (if x3.length < 4398046511104 then (tenetref24_copied.l0 k x0 (x3 ++ [(⟨(rd_T60 x0 x4).f0, (y581 ++ ((rd_T60 x0 x4).f1))⟩ : S60)]) (wrap64 (x4 + 1))) else (none)) else (none))) else (none)) else (some x3)
def tenetref24_copied.f (k : Nat) (l0 : List (S60)) : Option ((List (S60))) := tenetref24_copied.l0 k l0 ([] : List (S60)) 0
def tenetref24_copied.T5 : Bool × List (List Nat × List Nat) := (true, [([], []), ([], []), ([], []), ([1, 2], [1, 2]), ([3], [3]), ([4], [4]), ([], []), ([], []), ([], []), ([7, 8], [7, 8]), ([9], [9]), ([10], [10]), ([6, 11], [6, 11]), ([5, 12], [5, 12]), ([13], [13]), ([0, 14, 12], [0, 14]), ([15, 15, 0, 1, 2, 3, 4, 5, 6, 7, 8, 9, 10, 11, 12, 13, 14, 15], [0, 15])])
def tenetref24_copied.B5 : List Nat := [0, 0, 0, 6, 14, 30, 0, 0, 0, 384, 896, 1920, 4032, 8190, 16382, 32767, 65535]
theorem tenetref24_copied.tab5 : rtab .any (opsOf Try.f68 5) = tenetref24_copied.T5 := by kernel_rfl
theorem tenetref24_copied.bits5 : waitsOk tenetref24_copied.T5.2 tenetref24_copied.B5 = true := by kernel_rfl
set_option maxHeartbeats 8000000 in
set_option maxRecDepth 100000 in
theorem tenetref24_copied.calls (k : Nat) (A0 : Option Addr) (c0 : Nat) (l0 : List (S60)) (r : List (S60)) (w : World) (hr0 : Kd.C k60 w A0 l0.length l0) (hc0 : l0.length ≤ c0) (h : tenetref24_copied.f k l0 = some r) :
  Calls Try.prog 68 #[.slice A0 l0.length c0] w fun e w' => ∃ v0_ : Value, e = .returned (v0_) ∧ Kd.S k60 60 w' w.heap.size (fun _ => True) v0_ r ∧ Below w.heap.size w w' := by
 have hu60 := Try.underlying60
 have HR0 := Aside0.mk hr0
 have HC0 := Aside0.mk hc0
 clear hr0 hc0
 have HB := Aside0.mk (Below.refl w.heap.size w)
 have H : (tenetref24_copied.l0 k l0 ([] : List (S60)) 0) = some r := h
 clear h
 have H' := Aside0.mk H
 clear H
 go_enter Try.func68, Try.ntmps68
 go_wp2
 go_loopg [3, 4] k (fun kq v3 v4 w' => ∃ (x3_1 : List (S60)) (x4_1 : Int), v4 = .int .i64 x4_1 ∧ Aside0 (tenetref24_copied.l0 kq l0 x3_1 x4_1 = some r) ∧ Aside0 (kq ≤ k) ∧ Aside0 (Kd.S k60 60 w' w.heap.size (fun _ => True) v3 x3_1) ∧ Aside0 (Below w.heap.size w w'))
 case atStart => exact ⟨(([] : List (S60))), (0), (by first | rfl | (simp; done) | (simp [*]; done)), H', ⟨Nat.le_refl _⟩, ⟨by first | exact Kd.S_nil _ _ _ _ _ | exact Kd.N_nil _ _ _ _ _ | exact Kd.V_nil _ _ _ _ _ | exact Kd.Q_nil _ _ _ _ _ | exact Kd.R_nil _ _ _ _ _⟩, ⟨by repeat (first | (with_reducible first | exact HB.out | apply below_alloc | apply pw_below_drewN | apply below_drew1) | exact HB.out)⟩⟩
 case round =>
  clear H'
  obtain ⟨x3_1, x4_1, rfl, HA, HK1, HO_3, HB⟩ := hrel
  cases gk with
  | zero => exact absurd HA.out (by simp [tenetref24_copied.l0])
  | succ k1 =>
   have H := HA.out
   clear HA
   simp only [tenetref24_copied.l0] at H
   by_cases c2 : x4_1 < (l0.length : Int)
   ·rw [if_pos c2] at H
    have c2b0 : decide (x4_1 < (l0.length : Int)) = true := decide_eq_true c2
    clear c2
    by_cases c3 : 0 ≤ x4_1
    ·rw [if_pos c3] at H
     have c3b0 : decide (0 ≤ x4_1) = true := decide_eq_true c3
     clear c3
     obtain ⟨y581, hy581⟩ : ∃ y_ : List Int, y_ = (([] : List Int)) := ⟨_, rfl⟩
     replace H : (if y581.length + ((rd_T60 l0 x4_1).f1).length < 17592186044416 then (if x3_1.length < 4398046511104 then (tenetref24_copied.l0 k1 l0 (x3_1 ++ [(⟨(rd_T60 l0 x4_1).f0, (y581 ++ ((rd_T60 l0 x4_1).f1))⟩ : S60)]) (wrap64 (x4_1 + 1))) else (none)) else (none)) = some r := by first | (rw [hy581]; with_reducible exact H) | (have H2_ := (Option.bind_some _ _).symm.trans H; rw [hy581]; with_reducible exact H2_) | (have H2_ := (Option.bind_some _ _).symm.trans H; with_reducible exact H2_) | with_reducible exact H | (rw [hy581]; exact H) | exact H
     have Ny581 := Aside0.mk hy581
     clear hy581
     by_cases c4 : y581.length + ((rd_T60 l0 x4_1).f1).length < 17592186044416
     ·rw [if_pos c4] at H
      have LMc4 := Aside0.mk c4
      clear c4
      obtain ⟨y585, hy585⟩ : ∃ y_ : List Int, y_ = (y581 ++ ((rd_T60 l0 x4_1).f1)) := ⟨_, rfl⟩
      replace H : (if x3_1.length < 4398046511104 then (tenetref24_copied.l0 k1 l0 (x3_1 ++ [(⟨(rd_T60 l0 x4_1).f0, y585⟩ : S60)]) (wrap64 (x4_1 + 1))) else (none)) = some r := by first | (rw [hy585]; with_reducible exact H) | (have H2_ := (Option.bind_some _ _).symm.trans H; rw [hy585]; with_reducible exact H2_) | (have H2_ := (Option.bind_some _ _).symm.trans H; with_reducible exact H2_) | with_reducible exact H | (rw [hy585]; exact H) | exact H
      have Ny585 := Aside0.mk hy585
      clear hy585
      by_cases c5 : x3_1.length < 4398046511104
      ·rw [if_pos c5] at H
       have LMc5 := Aside0.mk c5
       clear c5
       obtain ⟨y588, hy588⟩ : ∃ y_ : List (S60), y_ = (x3_1 ++ [(⟨(rd_T60 l0 x4_1).f0, y585⟩ : S60)]) := ⟨_, rfl⟩
       replace H : (tenetref24_copied.l0 k1 l0 y588 (wrap64 (x4_1 + 1))) = some r := by first | (rw [hy588]; with_reducible exact H) | (have H2_ := (Option.bind_some _ _).symm.trans H; rw [hy588]; with_reducible exact H2_) | (have H2_ := (Option.bind_some _ _).symm.trans H; with_reducible exact H2_) | with_reducible exact H | (rw [hy588]; exact H) | exact H
       have Ny588 := Aside0.mk hy588
       clear hy588
       have H' := Aside0.mk H
       clear H
       try go_wp2
       have n0_ := Aside0.mk (Kd.S_drew HO_3.out)
       have n1_ := Aside0.mk (below_drew1 HB.out)
       clear HO_3
       clear HB
       have HO_3 := n0_
       have HB := n1_
       clear n0_ n1_
       have p580 : 0 ≤ (x4_1 : Int) := of_decide_eq_true (by first | (with_reducible assumption) | assumption)
       have q580 : x4_1 < (l0.length : Int) := of_decide_eq_true (by first | (with_reducible assumption) | assumption)
       obtain ⟨ad580, A580_1, c580_1, e580, hx580_0, hx580_1, hl580_1, hi580_1⟩ := at_T60 HR0.out x4_1 p580 q580
       have hw580_1 := hx580_1
       have hw580_0 := hx580_0
       cases e580
       replace hx580_0 := (HB.out.cell (World.block_lt_of_cell? w _ hx580_0)).trans hx580_0
       replace hx580_1 := (HB.out.cell (World.block_lt_of_cell? w _ hx580_1)).trans hx580_1
       have HR580_1 := Aside0.mk hi580_1
       have HC580_1 := Aside0.mk hl580_1
       clear hi580_1 hl580_1
       replace p580 := eq_true p580
       replace q580 := eq_true q580
       have p584 : 0 ≤ (x4_1 : Int) := of_decide_eq_true (by first | (with_reducible assumption) | assumption)
       have q584 : x4_1 < (l0.length : Int) := of_decide_eq_true (by first | (with_reducible assumption) | assumption)
       obtain ⟨ad584, A584_1, c584_1, e584, hx584_0, hx584_1, hl584_1, hi584_1⟩ := at_T60 HR0.out x4_1 p584 q584
       have hw584_1 := hx584_1
       have hw584_0 := hx584_0
       obtain rfl : ad580 = ad584 := (by injection e584)
       replace hx584_0 := (HB.out.cell (World.block_lt_of_cell? w _ hx584_0)).trans hx584_0
       replace hx584_1 := (HB.out.cell (World.block_lt_of_cell? w _ hx584_1)).trans hx584_1
       have HR584_1 := Aside0.mk hi584_1
       have HC584_1 := Aside0.mk hl584_1
       clear hi584_1 hl584_1
       replace p584 := eq_true p584
       replace q584 := eq_true q584
       have ea_ := Option.some.inj (hx580_1.symm.trans hx584_1)
       injection ea_ with ea_ en_ ec_
       subst ea_
       subst ec_
       clear en_
       refine start_ (n := 17) (S := fun w' => w'.cell? (ad580.add ((x4_1).toNat * 2)) = some (.int .i64 ((rd_T60 l0 x4_1).f0)) ∧ w'.cell? ⟨(ad580.add ((x4_1).toNat * 2)).block, (ad580.add ((x4_1).toNat * 2)).off + 1, none⟩ = some (.slice A580_1 ((rd_T60 l0 x4_1).f1).length c580_1) ∧ w'.cell? (ad580.add ((x4_1).toNat * 2)) = some (.int .i64 ((rd_T60 l0 x4_1).f0)) ∧ w'.cell? ⟨(ad580.add ((x4_1).toNat * 2)).block, (ad580.add ((x4_1).toNat * 2)).off + 1, none⟩ = some (.slice A580_1 ((rd_T60 l0 x4_1).f1).length c580_1)) (ds := []) #[false, false, false, false, false, false, false, false, false, false, false, false, false, false, false, false, false] (by kernel_rfl) rfl rfl ⟨((HB.out.cell (World.block_lt_of_cell? w _ hw580_0)).trans hw580_0), ((HB.out.cell (World.block_lt_of_cell? w _ hw580_1)).trans hw580_1), ((HB.out.cell (World.block_lt_of_cell? w _ hw584_0)).trans hw584_0), ((HB.out.cell (World.block_lt_of_cell? w _ hw584_1)).trans hw584_1)⟩ (fun hHeld => ?_); refine with_tabW tenetref24_copied.tab5 tenetref24_copied.bits5 (fun HT_ HW_ => ?_)
       generalize wr.drew = w6 at HO_3 HB HR580_1 HR584_1 hx580_0 hx580_1 hx584_0 hx584_1 hHeld ⊢
       refine pure_ (i := 0) (N := some 11) (v := ?_) (a' := ?_) #[true, false, false, false, false, false, false, false, false, false, false, false, false, false, false, false, false] rfl rfl (any_of HT_.out (by kernel_rfl)) (fun _ _ _ h => h) (Or.inl ⟨by rfl, ?_⟩) ?_ ?_
       rotate_left
       ·intro w'
        go_simp
        with_reducible rfl
       rotate_left
       ·simp only [Act.put, List.setIfInBounds_toArray, List.set_cons_zero, List.set_cons_succ, i64_w, i32_w]
        rfl
       refine pure_ (i := 1) (N := some 12) (v := ?_) (a' := ?_) #[true, true, false, false, false, false, false, false, false, false, false, false, false, false, false, false, false] rfl rfl (any_of HT_.out (by kernel_rfl)) (fun _ _ _ h => h) (Or.inl ⟨by rfl, ?_⟩) ?_ ?_
       rotate_left
       ·intro w'
        go_simp
        with_reducible rfl
       rotate_left
       ·simp only [Act.put, List.setIfInBounds_toArray, List.set_cons_zero, List.set_cons_succ, i64_w, i32_w]
        rfl
       refine pure_ (i := 2) (N := some 13) (v := ?_) (a' := ?_) #[true, true, true, false, false, false, false, false, false, false, false, false, false, false, false, false, false] rfl rfl (any_of HT_.out (by kernel_rfl)) (fun _ _ _ h => h) (Or.inl ⟨by rfl, ?_⟩) ?_ ?_
       rotate_left
       ·intro w'
        go_simp
        with_reducible rfl
       rotate_left
       ·simp only [Act.put, List.setIfInBounds_toArray, List.set_cons_zero, List.set_cons_succ, i64_w, i32_w]
        rfl
       refine pure_ (i := 3) (N := some 14) (v := ?_) (a' := ?_) #[true, true, true, true, false, false, false, false, false, false, false, false, false, false, false, false, false] rfl rfl (any_of HT_.out (by kernel_rfl)) (fun _ _ _ h => h) (Or.inl ⟨by rfl, ?_⟩) ?_ ?_
       rotate_left
       ·intro w'
        go_simp
        with_reducible rfl
       rotate_left
       ·simp only [Act.put, List.setIfInBounds_toArray, List.set_cons_zero, List.set_cons_succ, i64_w, i32_w]
        rfl
       refine pure_ (i := 4) (N := some 15) (v := ?_) (a' := ?_) #[true, true, true, true, true, false, false, false, false, false, false, false, false, false, false, false, false] rfl rfl (any_of HT_.out (by kernel_rfl)) (fun _ _ _ h => h) (Or.inl ⟨by rfl, ?_⟩) ?_ ?_
       rotate_left
       ·intro w'
        go_simp
        with_reducible rfl
       rotate_left
       ·simp only [Act.put, List.setIfInBounds_toArray, List.set_cons_zero, List.set_cons_succ, i64_w, i32_w]
        rfl
       refine pure_ (i := 7) (N := some 18) (v := ?_) (a' := ?_) #[true, true, true, true, true, false, false, true, false, false, false, false, false, false, false, false, false] rfl rfl (any_of HT_.out (by kernel_rfl)) (fun _ _ _ h => h) (Or.inl ⟨by rfl, ?_⟩) ?_ ?_
       rotate_left
       ·intro w'
        go_simp
        with_reducible rfl
       rotate_left
       ·simp only [Act.put, List.setIfInBounds_toArray, List.set_cons_zero, List.set_cons_succ, i64_w, i32_w]
        rfl
       refine pure_ (i := 8) (N := some 19) (v := ?_) (a' := ?_) #[true, true, true, true, true, false, false, true, true, false, false, false, false, false, false, false, false] rfl rfl (any_of HT_.out (by kernel_rfl)) (fun _ _ _ h => h) (Or.inl ⟨by rfl, ?_⟩) ?_ ?_
       rotate_left
       ·intro w'
        go_simp
        with_reducible rfl
       rotate_left
       ·simp only [Act.put, List.setIfInBounds_toArray, List.set_cons_zero, List.set_cons_succ, i64_w, i32_w]
        rfl
       refine pure_ (i := 9) (N := some 20) (v := ?_) (a' := ?_) #[true, true, true, true, true, false, false, true, true, true, false, false, false, false, false, false, false] rfl rfl (any_of HT_.out (by kernel_rfl)) (fun _ _ _ h => h) (Or.inl ⟨by rfl, ?_⟩) ?_ ?_
       rotate_left
       ·intro w'
        go_simp
        with_reducible rfl
       rotate_left
       ·simp only [Act.put, List.setIfInBounds_toArray, List.set_cons_zero, List.set_cons_succ, i64_w, i32_w]
        rfl
       refine pure_ (i := 10) (N := some 21) (v := ?_) (a' := ?_) #[true, true, true, true, true, false, false, true, true, true, true, false, false, false, false, false, false] rfl rfl (any_of HT_.out (by kernel_rfl)) (fun _ _ _ h => h) (Or.inl ⟨by rfl, ?_⟩) ?_ ?_
       rotate_left
       ·intro w'
        go_simp
        with_reducible rfl
       rotate_left
       ·simp only [Act.put, List.setIfInBounds_toArray, List.set_cons_zero, List.set_cons_succ, i64_w, i32_w]
        rfl
       refine take_ (i := 5) (N := some 16) (v := ?_) (a' := ?_) #[true, true, true, true, true, true, false, true, true, true, true, false, false, false, false, false, false] rfl rfl (take_ofW HT_.out HW_.out (by kernel_rfl)) (fun _ _ _ h => h) (Or.inl ⟨by rfl, ?_⟩) hHeld ?_ ?_
       rotate_left
       ·rintro w' ⟨s0, s1, s2, s3⟩
        go_simp
        with_reducible rfl
       rotate_left
       ·simp only [Act.put, List.setIfInBounds_toArray, List.set_cons_zero, List.set_cons_succ, i64_w, i32_w]
        rfl
       refine take_ (i := 11) (N := some 22) (v := ?_) (a' := ?_) #[true, true, true, true, true, true, false, true, true, true, true, true, false, false, false, false, false] rfl rfl (take_ofW HT_.out HW_.out (by kernel_rfl)) (fun _ _ _ h => h) (Or.inl ⟨by rfl, ?_⟩) hHeld ?_ ?_
       rotate_left
       ·rintro w' ⟨s0, s1, s2, s3⟩
        go_simp
        with_reducible rfl
       rotate_left
       ·simp only [Act.put, List.setIfInBounds_toArray, List.set_cons_zero, List.set_cons_succ, i64_w, i32_w]
        rfl
       refine one_ (i := 6) (N := some 17) #[true, true, true, true, true, true, true, true, true, true, true, true, false, false, false, false, false] rfl rfl (one_of HT_.out (by kernel_rfl)) (by decide) (fun K hK => ?_)
       refine Kd.R_lit_step (Kd.int .i64) _ 3 ?hg (N := 17) ?hd (xs := ([] : List Int)) (inner := []) (ok := fun _ => True) (okp := fun _ => True) ?hr ?hp (fun _ hk => hk) trivial (Below.refl _ _) (Nat.le_refl _) (by simp) ?_; (case hd => rfl); (case hg => rfl); (case hr => first | (go_simp; done) | (go_simp; rfl)); (case hp => exact (Reps.none _ _))
       intro v582 w7 ho8 hb hg_ hnew_
       clear hg_ hnew_
       (first | rw [← Ny581.out] at ho8 | (simp only [Int.reduceToNat] at ho8; rw [← Ny581.out] at ho8))
       have n0_ := Aside0.mk (Kd.S_elder' (by (with_reducible repeat (first | apply Kd.S_alloc | apply Kd.S_drewN | apply Kd.S_drew)); exact HO_3.out) (Kd.R_base ho8) hb)
       have n1_ := Aside0.mk (Kd.R_lower ho8 (below_size (by repeat (first | (with_reducible first | exact HB.out | apply below_alloc | apply pw_below_drewN | apply below_drew1) | exact HB.out))))
       have n2_ := Aside0.mk (below_step (by repeat (first | (with_reducible first | exact HB.out | apply below_alloc | apply pw_below_drewN | apply below_drew1) | exact HB.out)) hb)
       clear HO_3
       clear HB
       have HO_3 := n0_
       have HO583 := n1_
       have HB := n2_
       clear n0_ n1_ n2_
       clear hb ho8
       refine hK.out _ _ ⟨((HB.out.cell (World.block_lt_of_cell? w _ hw580_0)).trans hw580_0), ((HB.out.cell (World.block_lt_of_cell? w _ hw580_1)).trans hw580_1), ((HB.out.cell (World.block_lt_of_cell? w _ hw584_0)).trans hw584_0), ((HB.out.cell (World.block_lt_of_cell? w _ hw584_1)).trans hw584_1)⟩ (fun hHeld => ?_)
       clear hK K
       refine norm_ (a' := ?_) ?_ ?_
       rotate_left
       ·show Act.put _ (some 17) _ = _
        simp only [Act.put, List.setIfInBounds_toArray, List.set_cons_zero, List.set_cons_succ, i64_w, i32_w]
        rfl
       refine one_ (i := 12) (N := some 23) #[true, true, true, true, true, true, true, true, true, true, true, true, true, false, false, false, false] rfl rfl (one_of HT_.out (by kernel_rfl)) (by decide) (fun K hK => ?_)
       refine Kd.R_append_rows_step (Kd.int .i64) (w0 := w) w.heap.size (by rfl) (.tmp 17) (.tmp 22) 33 3 (.int .i64 0) 8 rfl Try.underlying33 info3 rfl (by decide) (by omega) v582 y581 ((rd_T60 l0 x4_1).f1) _ _ _ (fun _ => True) (fun _ => False) rfl rfl ?aO ?aR (fun _ _ h => h) (fun _ h => h.elim) ?aF ?aB ?aS ?aL ?_
       (case aR => repeat (first | exact (Kd.C_below HR584_1.out HB.out) | (with_reducible refine Kd.C_alloc ?_ _) | (with_reducible refine Kd.C_drewN ?_ _) | (with_reducible refine Kd.C_drew ?_)))
       (case aB => exact (by repeat (first | (with_reducible first | exact HB.out | apply below_alloc | apply pw_below_drewN | apply below_drew1) | exact HB.out)))
       (case aF => exact (fun _ _ => trivial))
       (case aO => exact (by (with_reducible repeat (first | apply Kd.R_alloc | apply Kd.R_drewN | apply Kd.R_drew)); exact HO583.out))
       (case aS => exact (below_size (by repeat (first | (with_reducible first | exact HB.out | apply below_alloc | apply pw_below_drewN | apply below_drew1) | exact HB.out))))
       (case aL => have := LMc4.out; omega)
       intro v586 w9 ho hb hg hat
       rw [← Ny585.out] at ho
       have n0_ := Aside0.mk (Kd.S_after (ok := (fun _ => True)) (by (with_reducible repeat (first | apply Kd.S_alloc | apply Kd.S_drewN | apply Kd.S_drew)); exact HO_3.out) hg hat)
       have n1_ := Aside0.mk (hb)
       have n2_ := Aside0.mk (ho)
       clear HO_3
       clear HB
       clear HO583
       have HO_3 := n0_
       have HB := n1_
       have HO587 := n2_
       clear n0_ n1_ n2_
       clear ho hb hg hat
       obtain ⟨Ao10, co10, eo10⟩ := Kd.R_slice HO587.out
       (first | subst eo10 | (injection eo10 with f1_ f2_ f3_; have f4_ := f1_.symm; have f5_ := f3_.symm; clear f1_ f2_ f3_; subst f4_; subst f5_))
       refine hK.out _ _ ⟨((HB.out.cell (World.block_lt_of_cell? w _ hw580_0)).trans hw580_0), ((HB.out.cell (World.block_lt_of_cell? w _ hw580_1)).trans hw580_1), ((HB.out.cell (World.block_lt_of_cell? w _ hw584_0)).trans hw584_0), ((HB.out.cell (World.block_lt_of_cell? w _ hw584_1)).trans hw584_1)⟩ (fun hHeld => ?_)
       clear hK K
       refine norm_ (a' := ?_) ?_ ?_
       rotate_left
       ·show Act.put _ (some 23) _ = _
        simp only [Act.put, List.setIfInBounds_toArray, List.set_cons_zero, List.set_cons_succ, i64_w, i32_w]
        rfl
       refine pure_ (i := 13) (N := some 24) (v := ?_) (a' := ?_) #[true, true, true, true, true, true, true, true, true, true, true, true, true, true, false, false, false] rfl rfl (any_of HT_.out (by kernel_rfl)) (fun _ _ _ h => h) (Or.inl ⟨by rfl, ?_⟩) ?_ ?_
       rotate_left
       ·intro w'
        go_simp
        with_reducible rfl
       rotate_left
       ·simp only [Act.put, List.setIfInBounds_toArray, List.set_cons_zero, List.set_cons_succ, i64_w, i32_w]
        rfl
       refine one_ (i := 14) (N := some 25) #[true, true, true, true, true, true, true, true, true, true, true, true, true, true, true, false, false] rfl rfl (one_of HT_.out (by kernel_rfl)) (by decide) (fun K hK => ?_)
       refine value_ (w1 := ?_) (v := ?_) (by rfl) rfl ?_ ?_
       rotate_left 2
       ·go_simp
        constructor
        ·rfl
        ·rfl
       refine hK.out _ _ ⟨(World.cell?_alloc_lt _ _ _ (World.block_lt_of_cell? _ _ (((HB.out.cell (World.block_lt_of_cell? w _ hw580_0)).trans hw580_0)))).trans (((HB.out.cell (World.block_lt_of_cell? w _ hw580_0)).trans hw580_0)), (World.cell?_alloc_lt _ _ _ (World.block_lt_of_cell? _ _ (((HB.out.cell (World.block_lt_of_cell? w _ hw580_1)).trans hw580_1)))).trans (((HB.out.cell (World.block_lt_of_cell? w _ hw580_1)).trans hw580_1)), (World.cell?_alloc_lt _ _ _ (World.block_lt_of_cell? _ _ (((HB.out.cell (World.block_lt_of_cell? w _ hw584_0)).trans hw584_0)))).trans (((HB.out.cell (World.block_lt_of_cell? w _ hw584_0)).trans hw584_0)), (World.cell?_alloc_lt _ _ _ (World.block_lt_of_cell? _ _ (((HB.out.cell (World.block_lt_of_cell? w _ hw584_1)).trans hw584_1)))).trans (((HB.out.cell (World.block_lt_of_cell? w _ hw584_1)).trans hw584_1))⟩ (fun hHeld => ?_)
       clear hK K
       refine norm_ (a' := ?_) ?_ ?_
       rotate_left
       ·show Act.put _ (some 25) _ = _
        simp only [Act.put, List.setIfInBounds_toArray, List.set_cons_zero, List.set_cons_succ, i64_w, i32_w]
        rfl
       refine one_ (i := 15) (N := some 26) #[true, true, true, true, true, true, true, true, true, true, true, true, true, true, true, true, false] rfl rfl (one_of HT_.out (by kernel_rfl)) (by decide) (fun K hK => ?_)
       refine Kd.S_append_step k60 (w0 := w) w.heap.size (by rfl) (.tmp 11) (.tmp 25) 22 60 (.agg #[(.int .i64 0), (.slice none 0 0)]) 32 rfl Try.underlying22 info60 rfl (by decide) (by omega) u3 x3_1 (⟨(rd_T60 l0 x4_1).f0, y585⟩ : S60) [.int .i64 ((rd_T60 l0 x4_1).f0), .slice Ao10 y585.length co10] (fun _ => True) (fun k_ => some k_ = (.slice Ao10 y585.length co10 : Value).ownBlock) rfl rfl ?aP (fun k_ hk_ => ((Kd.R_mono (ok' := fun k_ => ((fun _ => True)) k_ ∧ some k_ ≠ (u3 : Value).ownBlock) (Kd.R_apart' (HO587.out) (Kd.S_typed HO_3.out) (by decide)) (fun k_ hk => ⟨trivial, hk.2⟩))).1 k_ hk_.symm) ?aF ?aO ?aB ?aS ?aL ?_
       (case aP => exact k60_mkM _ _ _ (⟨(rd_T60 l0 x4_1).f0, y585⟩ : S60) (Kd.R_mono (Kd.R_tight rfl (Kd.R_mono (ok' := fun k_ => ((fun _ => True)) k_ ∧ some k_ ≠ (u3 : Value).ownBlock) (Kd.R_apart' (HO587.out) (Kd.S_typed HO_3.out) (by decide)) (fun k_ hk => ⟨trivial, hk.2⟩))) (fun _ h_ => h_)))
       (case aB => exact (by repeat (first | (with_reducible first | exact HB.out | apply below_alloc | apply pw_below_drewN | apply below_drew1) | exact HB.out)))
       (case aF => exact (fun _ _ => trivial))
       (case aO => exact (by (with_reducible repeat (first | apply Kd.S_alloc | apply Kd.S_drewN | apply Kd.S_drew)); exact Kd.S_mono HO_3.out (fun k_ hk => ⟨trivial, fun e_ => hk.2 e_⟩)))
       (case aS => exact (below_size (by repeat (first | (with_reducible first | exact HB.out | apply below_alloc | apply pw_below_drewN | apply below_drew1) | exact HB.out))))
       (case aL => have := LMc5.out; omega)
       intro v589 w11 ho hb hg hat
       rw [← Ny588.out] at ho
       have n0_ := Aside0.mk (hb)
       have n1_ := Aside0.mk (ho)
       clear HB
       clear HO_3
       clear HO587
       have HB := n0_
       have HO590 := n1_
       clear n0_ n1_
       clear ho hb hg hat
       refine hK.out _ _ ⟨((HB.out.cell (World.block_lt_of_cell? w _ hw580_0)).trans hw580_0), ((HB.out.cell (World.block_lt_of_cell? w _ hw580_1)).trans hw580_1), ((HB.out.cell (World.block_lt_of_cell? w _ hw584_0)).trans hw584_0), ((HB.out.cell (World.block_lt_of_cell? w _ hw584_1)).trans hw584_1)⟩ (fun hHeld => ?_)
       clear hK K
       refine norm_ (a' := ?_) ?_ ?_
       rotate_left
       ·show Act.put _ (some 26) _ = _
        simp only [Act.put, List.setIfInBounds_toArray, List.set_cons_zero, List.set_cons_succ, i64_w, i32_w]
        rfl
       refine pure_ (i := 16) (N := some 3) (v := ?_) (a' := ?_) #[true, true, true, true, true, true, true, true, true, true, true, true, true, true, true, true, true] rfl rfl (any_of HT_.out (by kernel_rfl)) (fun _ _ _ h => h) (Or.inl ⟨by rfl, ?_⟩) ?_ ?_
       rotate_left
       ·intro w'
        go_simp
        with_reducible rfl
       rotate_left
       ·simp only [Act.put, List.setIfInBounds_toArray, List.set_cons_zero, List.set_cons_succ, i64_w, i32_w]
        rfl
       refine done_ (done_of HT_.out (by kernel_rfl)) ?_
       try go_wp2
       go_roundg k1
       case measure => have := HK1.out; omega
       case rel => exact ⟨(y588), (wrap64 (x4_1 + 1)), (by first | rfl | (simp; done) | (simp [*]; done)), H', ⟨by have := HK1.out; omega⟩, ⟨by (with_reducible repeat (first | apply Kd.S_alloc | apply Kd.S_drewN | apply Kd.S_drew)); exact HO590.out⟩, ⟨by repeat (first | (with_reducible first | exact HB.out | apply below_alloc | apply pw_below_drewN | apply below_drew1) | exact HB.out)⟩⟩
      ·rw [if_neg c5] at H
       exact absurd H (by simp)
     ·rw [if_neg c4] at H
      exact absurd H (by simp)
    ·rw [if_neg c3] at H
     exact absurd H (by simp)
   ·rw [if_neg c2] at H
    have c2b0 : decide (x4_1 < (l0.length : Int)) = false := decide_eq_false c2
    clear c2
    obtain rfl := Option.some.inj H
    go_wp2
    go_ret
    exact ⟨_, by first | rfl | (simp [errW_none, errW_some] <;> rfl) | (simp [*, errW_none, errW_some] <;> rfl), by (with_reducible repeat (first | apply Kd.S_alloc | apply Kd.S_drewN | apply Kd.S_drew)); exact HO_3.out, by repeat (first | (with_reducible first | exact HB.out | apply below_alloc | apply pw_below_drewN | apply below_drew1) | exact HB.out)⟩
end Go.Proofs.Ythkclagcbjnckaa.Pa


namespace Go.Proofs.Ythkclagcbjnckaa.Pa
open Go.RowKit Go.Proofs.YthkclagcbjnckaaW.PrintWords Go.Proofs.YthkclagcbjnckaaW.PrintLast Go.Proofs.YthkclagcbjnckaaW.PrintMore
attribute [local go_sem] max2_int min2_int max_two min_two max_three min_three max_four min_four
set_option linter.unusedVariables false
set_option linter.unusedSimpArgs false
def tenetref24_Normal.f (k : Nat) (a0_0 : Int) (a0_1 : Int) (l0_2 : List (S27)) : Option ((List (S60)) × Int) := (tenetref24_Valid.f k a0_0 a0_1 l0_2).bind fun t592 => (if t592 = true then ((tenetref24_normal.f k a0_0 a0_1 l0_2).bind fun bt593 => (if bt593.2 = true then ((tenetref24_copied.f k bt593.1).bind fun t597 => (some (t597, 0))) else (some (([] : List (S60)), 2)))) else (some (([] : List (S60)), 4)))
set_option maxHeartbeats 8000000 in
set_option maxRecDepth 100000 in
theorem tenetref24_Normal.calls (k : Nat) (a0_0 : Int) (a0_1 : Int) (A0_2 : Option Addr) (c0_2 : Nat) (l0_2 : List (S27)) (r1 : List (S60)) (r2 : Int) (w : World) (hr0_2 : Kd.C k27 w A0_2 l0_2.length l0_2) (hc0_2 : l0_2.length ≤ c0_2) (h : tenetref24_Normal.f k a0_0 a0_1 l0_2 = some (r1, r2)) :
  Calls Try.prog 28 #[.agg #[.int .i64 a0_0, .int .i64 a0_1, .slice A0_2 l0_2.length c0_2]] w fun e w' => ∃ v0_ : Value, e = .returned (.tuple #[v0_, .int .i64 r2]) ∧ Kd.S k60 60 w' w.heap.size (fun _ => True) v0_ r1 ∧ Below w.heap.size w w' := by
 have hu27 := Try.underlying27
 have HR0_2 := Aside0.mk hr0_2
 have HC0_2 := Aside0.mk hc0_2
 clear hr0_2 hc0_2
 have HB := Aside0.mk (Below.refl w.heap.size w)
 have H : ((tenetref24_Valid.f k a0_0 a0_1 l0_2).bind fun t592 => (if t592 = true then ((tenetref24_normal.f k a0_0 a0_1 l0_2).bind fun bt593 => (if bt593.2 = true then ((tenetref24_copied.f k bt593.1).bind fun t597 => (some (t597, 0))) else (some (([] : List (S60)), 2)))) else (some (([] : List (S60)), 4)))) = some (r1, r2) := h
 clear h
 replace H := Option.bind_eq_some_iff.mp H
 obtain ⟨t592, A20, H⟩ := H
 replace H : (if t592 = true then ((tenetref24_normal.f k a0_0 a0_1 l0_2).bind fun bt593 => (if bt593.2 = true then ((tenetref24_copied.f k bt593.1).bind fun t597 => (some (t597, 0))) else (some (([] : List (S60)), 2)))) else (some (([] : List (S60)), 4))) = some (r1, r2) := H
 have A2 := Aside0.mk A20
 clear A20
 by_cases c3 : t592 = true
 ·subst c3
  have H1 : ((tenetref24_normal.f k a0_0 a0_1 l0_2).bind fun bt593 => (if bt593.2 = true then ((tenetref24_copied.f k bt593.1).bind fun t597 => (some (t597, 0))) else (some (([] : List (S60)), 2)))) = some (r1, r2) := by rw [if_pos rfl] at H; exact H
  clear H
  have H := H1
  clear H1
  replace H := Option.bind_eq_some_iff.mp H
  obtain ⟨⟨t593, t596⟩, A40, H⟩ := H
  replace H : (if t596 = true then ((tenetref24_copied.f k t593).bind fun t597 => (some (t597, 0))) else (some (([] : List (S60)), 2))) = some (r1, r2) := H
  have A4 := Aside0.mk A40
  clear A40
  by_cases c5 : t596 = true
  ·subst c5
   have H1 : ((tenetref24_copied.f k t593).bind fun t597 => (some (t597, 0))) = some (r1, r2) := by rw [if_pos rfl] at H; exact H
   clear H
   have H := H1
   clear H1
   replace H := Option.bind_eq_some_iff.mp H
   obtain ⟨t597, A60, H⟩ := H
   replace H : (some (t597, 0)) = some (r1, r2) := H
   have A6 := Aside0.mk A60
   clear A60
   simp only [Option.some.injEq, Prod.mk.injEq] at H
   obtain ⟨rfl, rfl⟩ := H
   go_enter Try.func28, Try.ntmps28
   go_wp2_with (first | ((with_reducible refine gate_dst (N := 1) rfl ?_); refine box_event ?hg (N := 1) ?hd (cs := #[.int .i64 a0_0, .int .i64 a0_1, .slice A0_2 l0_2.length c0_2]) (t := 27) ?hr ?_; (case hd => rfl); (case hg => rfl); (case hr => first | (go_simp; done) | (go_simp; rfl)); intro gb591 hg w7 hbox hb; have n0_ := Aside0.mk (below_step (by repeat (first | (with_reducible first | exact HB.out | apply below_alloc | apply pw_below_drewN | apply below_drew1) | exact HB.out)) hb); have n1_ := Aside0.mk (hbox); have n2_ := Aside0.mk ((by rw [hg]; exact (below_size (by repeat (first | (with_reducible first | exact HB.out | apply below_alloc | apply pw_below_drewN | apply below_drew1) | exact HB.out))) : w.heap.size ≤ gb591)); have n3_ := Aside0.mk ((by rw [hg]; exact (below_size (by repeat (first | (with_reducible first | exact HB.out | apply below_alloc | apply pw_below_drewN | apply below_drew1) | exact HB.out))) : w.heap.size ≤ gb591)); clear HB; have HB := n0_; have BK591 := n1_; have GW591 := n2_; have GE591 := n3_; clear n0_ n1_ n2_ n3_; clear hb hbox hg; have hcz8_0 : w7.cell? ⟨gb591, 0, none⟩ = some (.int .i64 a0_0) := (blk_cell BK591.out 0).trans rfl; have hcz8_1 : w7.cell? ⟨gb591, 1, none⟩ = some (.int .i64 a0_1) := (blk_cell BK591.out 1).trans rfl; have hcz8_2 : w7.cell? ⟨gb591, 2, none⟩ = some (.slice A0_2 l0_2.length c0_2) := (blk_cell BK591.out 2).trans rfl; have hfz8_0 := blk_frozen BK591.out 0; have hfz8_1 := blk_frozen BK591.out 1; have hfz8_2 := blk_frozen BK591.out 2) | ((with_reducible refine gate_callee (f := 30) rfl ?_); refine goesL_ (some 7) rfl rfl Try.func30 (by kernel_rfl) rfl #[.agg #[.int .i64 a0_0, .int .i64 a0_1, .slice A0_2 l0_2.length c0_2]] rfl (by (try simp only [List.map_toArray, List.map_cons, List.map_nil]); first | done | rfl | (simp only [List.length_drop, List.length_take]; rfl)) ?_; (with_reducible refine (tenetref24_Valid.calls k a0_0 a0_1 _ _ l0_2 true _ ?side1 ?side2 A2.out).mono ?_); (case side1 => repeat (first | exact (Kd.C_below HR0_2.out HB.out) | (with_reducible refine Kd.C_alloc ?_ _) | (with_reducible refine Kd.C_drewN ?_ _) | (with_reducible refine Kd.C_drew ?_))); (case side2 => exact HC0_2.out); rintro e w9 ⟨rfl, hb⟩; refine ⟨_, rfl, ?_⟩; have n0_ := Aside0.mk (blk_below (g := gb591) (o := .cells #[.int .i64 a0_0, .int .i64 a0_1, .slice A0_2 l0_2.length c0_2] 27 (0, 0)) (by (with_reducible repeat (first | refine blk_drewN ?_ _ | refine blk_drew ?_ | refine blk_alloc ?_ _)); exact BK591.out) hb); have n1_ := Aside0.mk (below_step (by repeat (first | (with_reducible first | exact HB.out | apply below_alloc | apply pw_below_drewN | apply below_drew1 | refine below_set ?_ GE591.out) | exact HB.out)) hb); clear BK591; clear HB; have BK591 := n0_; have HB := n1_; clear n0_ n1_; (try clear hb); (try clear hb2); (try clear hk); (try clear hi); have hcz10_0 : w9.cell? ⟨gb591, 0, none⟩ = some (.int .i64 a0_0) := (blk_cell BK591.out 0).trans rfl; have hcz10_1 : w9.cell? ⟨gb591, 1, none⟩ = some (.int .i64 a0_1) := (blk_cell BK591.out 1).trans rfl; have hcz10_2 : w9.cell? ⟨gb591, 2, none⟩ = some (.slice A0_2 l0_2.length c0_2) := (blk_cell BK591.out 2).trans rfl; have hfz10_0 := blk_frozen BK591.out 0; have hfz10_1 := blk_frozen BK591.out 1; have hfz10_2 := blk_frozen BK591.out 2) | ((with_reducible refine gate_callee (f := 57) rfl ?_); refine goesL_ (some 11) rfl rfl Try.func57 (by kernel_rfl) rfl #[.agg #[.int .i64 a0_0, .int .i64 a0_1, .slice A0_2 l0_2.length c0_2]] rfl (by (try simp only [List.map_toArray, List.map_cons, List.map_nil]); first | done | rfl | (simp only [List.length_drop, List.length_take]; rfl)) ?_; (with_reducible refine (tenetref24_normal.calls k a0_0 a0_1 _ _ l0_2 t593 true _ ?side1 ?side2 A4.out).mono ?_); (case side1 => repeat (first | exact (Kd.C_below HR0_2.out HB.out) | (with_reducible refine Kd.C_alloc ?_ _) | (with_reducible refine Kd.C_drewN ?_ _) | (with_reducible refine Kd.C_drew ?_))); (case side2 => exact HC0_2.out); rintro e w11 ⟨v594, rfl, ho0, hb⟩; refine ⟨_, rfl, ?_⟩; have n0_ := Aside0.mk (Kd.V_lower (Kd.V_mono (ok' := fun k_ => k_ ≠ gb591) ho0 (fun k_ hk_ => (Kd.freshB (g := gb591) (o := .cells #[.int .i64 a0_0, .int .i64 a0_1, .slice A0_2 l0_2.length c0_2] 27 (0, 0)) (by (with_reducible repeat (first | refine blk_drewN ?_ _ | refine blk_drew ?_ | refine blk_alloc ?_ _)); exact BK591.out) k_ hk_))) (below_size (by repeat (first | (with_reducible first | exact HB.out | apply below_alloc | apply pw_below_drewN | apply below_drew1 | refine below_set ?_ GE591.out) | exact HB.out)))); have n1_ := Aside0.mk (blk_below (g := gb591) (o := .cells #[.int .i64 a0_0, .int .i64 a0_1, .slice A0_2 l0_2.length c0_2] 27 (0, 0)) (by (with_reducible repeat (first | refine blk_drewN ?_ _ | refine blk_drew ?_ | refine blk_alloc ?_ _)); exact BK591.out) hb); have n2_ := Aside0.mk (below_step (by repeat (first | (with_reducible first | exact HB.out | apply below_alloc | apply pw_below_drewN | apply below_drew1 | refine below_set ?_ GE591.out) | exact HB.out)) hb); clear BK591; clear HB; have HO595 := n0_; have BK591 := n1_; have HB := n2_; clear n0_ n1_ n2_; (try clear hb); (try clear hb2); (try clear hk); (try clear hi); (try clear ho0); obtain ⟨Ao12, co12, eo12⟩ := Kd.V_slice HO595.out; subst eo12) | ((with_reducible refine gate_callee (f := 68) rfl ?_); refine goesL_ (some 17) rfl rfl Try.func68 (by kernel_rfl) rfl #[.slice Ao12 t593.length co12] rfl (by (try simp only [List.map_toArray, List.map_cons, List.map_nil]); first | done | rfl | (simp only [List.length_drop, List.length_take]; rfl)) ?_; (with_reducible refine (tenetref24_copied.calls k _ _ t593 t597 _ ?side1 ?side2 A6.out).mono ?_); (case side1 => repeat (first | exact (Kd.V_reads' HO595.out).2.2 | (with_reducible refine Kd.C_alloc ?_ _) | (with_reducible refine Kd.C_drewN ?_ _) | (with_reducible refine Kd.C_drew ?_))); (case side2 => exact (Kd.V_reads' HO595.out).2.1); rintro e w13 ⟨v598, rfl, ho0, hb⟩; refine ⟨_, rfl, ?_⟩; have n0_ := Aside0.mk (Kd.V_elder' (by (with_reducible repeat (first | apply Kd.V_alloc | apply Kd.V_drewN | apply Kd.V_drew)); exact HO595.out) (Kd.S_base ho0) hb); have n1_ := Aside0.mk (Kd.S_lower ho0 (below_size (by repeat (first | (with_reducible first | exact HB.out | apply below_alloc | apply pw_below_drewN | apply below_drew1 | refine below_set ?_ GE591.out) | exact HB.out)))); have n2_ := Aside0.mk (blk_below (g := gb591) (o := .cells #[.int .i64 a0_0, .int .i64 a0_1, .slice A0_2 l0_2.length c0_2] 27 (0, 0)) (by (with_reducible repeat (first | refine blk_drewN ?_ _ | refine blk_drew ?_ | refine blk_alloc ?_ _)); exact BK591.out) hb); have n3_ := Aside0.mk (below_step (by repeat (first | (with_reducible first | exact HB.out | apply below_alloc | apply pw_below_drewN | apply below_drew1 | refine below_set ?_ GE591.out) | exact HB.out)) hb); clear HO595; clear BK591; clear HB; have HO595 := n0_; have HO599 := n1_; have BK591 := n2_; have HB := n3_; clear n0_ n1_ n2_ n3_; (try clear hb); (try clear hb2); (try clear hk); (try clear hi); (try clear ho0)))
   go_ret2
   exact ⟨_, by first | rfl | (simp [errW_none, errW_some] <;> rfl) | (simp [*, errW_none, errW_some] <;> rfl), by (with_reducible repeat (first | apply Kd.S_alloc | apply Kd.S_drewN | apply Kd.S_drew)); exact HO599.out, by repeat (first | (with_reducible first | exact HB.out | apply below_alloc | apply pw_below_drewN | apply below_drew1 | refine below_set ?_ GE591.out) | exact HB.out)⟩
  ·replace c5 := Bool.eq_false_iff.mpr c5
   subst c5
   have H1 : (some (([] : List (S60)), 2)) = some (r1, r2) := by rw [if_neg (show ¬ (false = true) by decide)] at H; exact H
   clear H
   have H := H1
   clear H1
   simp only [Option.some.injEq, Prod.mk.injEq] at H
   obtain ⟨rfl, rfl⟩ := H
   go_enter Try.func28, Try.ntmps28
   go_wp2_with (first | ((with_reducible refine gate_dst (N := 1) rfl ?_); refine box_event ?hg (N := 1) ?hd (cs := #[.int .i64 a0_0, .int .i64 a0_1, .slice A0_2 l0_2.length c0_2]) (t := 27) ?hr ?_; (case hd => rfl); (case hg => rfl); (case hr => first | (go_simp; done) | (go_simp; rfl)); intro gb591 hg w14 hbox hb; have n0_ := Aside0.mk (below_step (by repeat (first | (with_reducible first | exact HB.out | apply below_alloc | apply pw_below_drewN | apply below_drew1) | exact HB.out)) hb); have n1_ := Aside0.mk (hbox); have n2_ := Aside0.mk ((by rw [hg]; exact (below_size (by repeat (first | (with_reducible first | exact HB.out | apply below_alloc | apply pw_below_drewN | apply below_drew1) | exact HB.out))) : w.heap.size ≤ gb591)); have n3_ := Aside0.mk ((by rw [hg]; exact (below_size (by repeat (first | (with_reducible first | exact HB.out | apply below_alloc | apply pw_below_drewN | apply below_drew1) | exact HB.out))) : w.heap.size ≤ gb591)); clear HB; have HB := n0_; have BK591 := n1_; have GW591 := n2_; have GE591 := n3_; clear n0_ n1_ n2_ n3_; clear hb hbox hg; have hcz15_0 : w14.cell? ⟨gb591, 0, none⟩ = some (.int .i64 a0_0) := (blk_cell BK591.out 0).trans rfl; have hcz15_1 : w14.cell? ⟨gb591, 1, none⟩ = some (.int .i64 a0_1) := (blk_cell BK591.out 1).trans rfl; have hcz15_2 : w14.cell? ⟨gb591, 2, none⟩ = some (.slice A0_2 l0_2.length c0_2) := (blk_cell BK591.out 2).trans rfl; have hfz15_0 := blk_frozen BK591.out 0; have hfz15_1 := blk_frozen BK591.out 1; have hfz15_2 := blk_frozen BK591.out 2) | ((with_reducible refine gate_callee (f := 30) rfl ?_); refine goesL_ (some 7) rfl rfl Try.func30 (by kernel_rfl) rfl #[.agg #[.int .i64 a0_0, .int .i64 a0_1, .slice A0_2 l0_2.length c0_2]] rfl (by (try simp only [List.map_toArray, List.map_cons, List.map_nil]); first | done | rfl | (simp only [List.length_drop, List.length_take]; rfl)) ?_; (with_reducible refine (tenetref24_Valid.calls k a0_0 a0_1 _ _ l0_2 true _ ?side1 ?side2 A2.out).mono ?_); (case side1 => repeat (first | exact (Kd.C_below HR0_2.out HB.out) | (with_reducible refine Kd.C_alloc ?_ _) | (with_reducible refine Kd.C_drewN ?_ _) | (with_reducible refine Kd.C_drew ?_))); (case side2 => exact HC0_2.out); rintro e w16 ⟨rfl, hb⟩; refine ⟨_, rfl, ?_⟩; have n0_ := Aside0.mk (blk_below (g := gb591) (o := .cells #[.int .i64 a0_0, .int .i64 a0_1, .slice A0_2 l0_2.length c0_2] 27 (0, 0)) (by (with_reducible repeat (first | refine blk_drewN ?_ _ | refine blk_drew ?_ | refine blk_alloc ?_ _)); exact BK591.out) hb); have n1_ := Aside0.mk (below_step (by repeat (first | (with_reducible first | exact HB.out | apply below_alloc | apply pw_below_drewN | apply below_drew1 | refine below_set ?_ GE591.out) | exact HB.out)) hb); clear BK591; clear HB; have BK591 := n0_; have HB := n1_; clear n0_ n1_; (try clear hb); (try clear hb2); (try clear hk); (try clear hi); have hcz17_0 : w16.cell? ⟨gb591, 0, none⟩ = some (.int .i64 a0_0) := (blk_cell BK591.out 0).trans rfl; have hcz17_1 : w16.cell? ⟨gb591, 1, none⟩ = some (.int .i64 a0_1) := (blk_cell BK591.out 1).trans rfl; have hcz17_2 : w16.cell? ⟨gb591, 2, none⟩ = some (.slice A0_2 l0_2.length c0_2) := (blk_cell BK591.out 2).trans rfl; have hfz17_0 := blk_frozen BK591.out 0; have hfz17_1 := blk_frozen BK591.out 1; have hfz17_2 := blk_frozen BK591.out 2) | ((with_reducible refine gate_callee (f := 57) rfl ?_); refine goesL_ (some 11) rfl rfl Try.func57 (by kernel_rfl) rfl #[.agg #[.int .i64 a0_0, .int .i64 a0_1, .slice A0_2 l0_2.length c0_2]] rfl (by (try simp only [List.map_toArray, List.map_cons, List.map_nil]); first | done | rfl | (simp only [List.length_drop, List.length_take]; rfl)) ?_; (with_reducible refine (tenetref24_normal.calls k a0_0 a0_1 _ _ l0_2 t593 false _ ?side1 ?side2 A4.out).mono ?_); (case side1 => repeat (first | exact (Kd.C_below HR0_2.out HB.out) | (with_reducible refine Kd.C_alloc ?_ _) | (with_reducible refine Kd.C_drewN ?_ _) | (with_reducible refine Kd.C_drew ?_))); (case side2 => exact HC0_2.out); rintro e w18 ⟨v594, rfl, ho0, hb⟩; refine ⟨_, rfl, ?_⟩; have n0_ := Aside0.mk (Kd.V_lower (Kd.V_mono (ok' := fun k_ => k_ ≠ gb591) ho0 (fun k_ hk_ => (Kd.freshB (g := gb591) (o := .cells #[.int .i64 a0_0, .int .i64 a0_1, .slice A0_2 l0_2.length c0_2] 27 (0, 0)) (by (with_reducible repeat (first | refine blk_drewN ?_ _ | refine blk_drew ?_ | refine blk_alloc ?_ _)); exact BK591.out) k_ hk_))) (below_size (by repeat (first | (with_reducible first | exact HB.out | apply below_alloc | apply pw_below_drewN | apply below_drew1 | refine below_set ?_ GE591.out) | exact HB.out)))); have n1_ := Aside0.mk (blk_below (g := gb591) (o := .cells #[.int .i64 a0_0, .int .i64 a0_1, .slice A0_2 l0_2.length c0_2] 27 (0, 0)) (by (with_reducible repeat (first | refine blk_drewN ?_ _ | refine blk_drew ?_ | refine blk_alloc ?_ _)); exact BK591.out) hb); have n2_ := Aside0.mk (below_step (by repeat (first | (with_reducible first | exact HB.out | apply below_alloc | apply pw_below_drewN | apply below_drew1 | refine below_set ?_ GE591.out) | exact HB.out)) hb); clear BK591; clear HB; have HO595 := n0_; have BK591 := n1_; have HB := n2_; clear n0_ n1_ n2_; (try clear hb); (try clear hb2); (try clear hk); (try clear hi); (try clear ho0)))
   go_ret2
   exact ⟨_, by first | rfl | (simp [errW_none, errW_some] <;> rfl) | (simp [*, errW_none, errW_some] <;> rfl), by first | exact Kd.S_nil _ _ _ _ _ | exact Kd.N_nil _ _ _ _ _ | exact Kd.V_nil _ _ _ _ _ | exact Kd.Q_nil _ _ _ _ _ | exact Kd.R_nil _ _ _ _ _, by repeat (first | (with_reducible first | exact HB.out | apply below_alloc | apply pw_below_drewN | apply below_drew1 | refine below_set ?_ GE591.out) | exact HB.out)⟩
 ·replace c3 := Bool.eq_false_iff.mpr c3
  subst c3
  have H1 : (some (([] : List (S60)), 4)) = some (r1, r2) := by rw [if_neg (show ¬ (false = true) by decide)] at H; exact H
  clear H
  have H := H1
  clear H1
  simp only [Option.some.injEq, Prod.mk.injEq] at H
  obtain ⟨rfl, rfl⟩ := H
  go_enter Try.func28, Try.ntmps28
  go_wp2_with (first | ((with_reducible refine gate_dst (N := 1) rfl ?_); refine box_event ?hg (N := 1) ?hd (cs := #[.int .i64 a0_0, .int .i64 a0_1, .slice A0_2 l0_2.length c0_2]) (t := 27) ?hr ?_; (case hd => rfl); (case hg => rfl); (case hr => first | (go_simp; done) | (go_simp; rfl)); intro gb591 hg w19 hbox hb; have n0_ := Aside0.mk (below_step (by repeat (first | (with_reducible first | exact HB.out | apply below_alloc | apply pw_below_drewN | apply below_drew1) | exact HB.out)) hb); have n1_ := Aside0.mk (hbox); have n2_ := Aside0.mk ((by rw [hg]; exact (below_size (by repeat (first | (with_reducible first | exact HB.out | apply below_alloc | apply pw_below_drewN | apply below_drew1) | exact HB.out))) : w.heap.size ≤ gb591)); have n3_ := Aside0.mk ((by rw [hg]; exact (below_size (by repeat (first | (with_reducible first | exact HB.out | apply below_alloc | apply pw_below_drewN | apply below_drew1) | exact HB.out))) : w.heap.size ≤ gb591)); clear HB; have HB := n0_; have BK591 := n1_; have GW591 := n2_; have GE591 := n3_; clear n0_ n1_ n2_ n3_; clear hb hbox hg; have hcz20_0 : w19.cell? ⟨gb591, 0, none⟩ = some (.int .i64 a0_0) := (blk_cell BK591.out 0).trans rfl; have hcz20_1 : w19.cell? ⟨gb591, 1, none⟩ = some (.int .i64 a0_1) := (blk_cell BK591.out 1).trans rfl; have hcz20_2 : w19.cell? ⟨gb591, 2, none⟩ = some (.slice A0_2 l0_2.length c0_2) := (blk_cell BK591.out 2).trans rfl; have hfz20_0 := blk_frozen BK591.out 0; have hfz20_1 := blk_frozen BK591.out 1; have hfz20_2 := blk_frozen BK591.out 2) | ((with_reducible refine gate_callee (f := 30) rfl ?_); refine goesL_ (some 7) rfl rfl Try.func30 (by kernel_rfl) rfl #[.agg #[.int .i64 a0_0, .int .i64 a0_1, .slice A0_2 l0_2.length c0_2]] rfl (by (try simp only [List.map_toArray, List.map_cons, List.map_nil]); first | done | rfl | (simp only [List.length_drop, List.length_take]; rfl)) ?_; (with_reducible refine (tenetref24_Valid.calls k a0_0 a0_1 _ _ l0_2 false _ ?side1 ?side2 A2.out).mono ?_); (case side1 => repeat (first | exact (Kd.C_below HR0_2.out HB.out) | (with_reducible refine Kd.C_alloc ?_ _) | (with_reducible refine Kd.C_drewN ?_ _) | (with_reducible refine Kd.C_drew ?_))); (case side2 => exact HC0_2.out); rintro e w21 ⟨rfl, hb⟩; refine ⟨_, rfl, ?_⟩; have n0_ := Aside0.mk (blk_below (g := gb591) (o := .cells #[.int .i64 a0_0, .int .i64 a0_1, .slice A0_2 l0_2.length c0_2] 27 (0, 0)) (by (with_reducible repeat (first | refine blk_drewN ?_ _ | refine blk_drew ?_ | refine blk_alloc ?_ _)); exact BK591.out) hb); have n1_ := Aside0.mk (below_step (by repeat (first | (with_reducible first | exact HB.out | apply below_alloc | apply pw_below_drewN | apply below_drew1 | refine below_set ?_ GE591.out) | exact HB.out)) hb); clear BK591; clear HB; have BK591 := n0_; have HB := n1_; clear n0_ n1_; (try clear hb); (try clear hb2); (try clear hk); (try clear hi)))
  go_ret2
  exact ⟨_, by first | rfl | (simp [errW_none, errW_some] <;> rfl) | (simp [*, errW_none, errW_some] <;> rfl), by first | exact Kd.S_nil _ _ _ _ _ | exact Kd.N_nil _ _ _ _ _ | exact Kd.V_nil _ _ _ _ _ | exact Kd.Q_nil _ _ _ _ _ | exact Kd.R_nil _ _ _ _ _, by repeat (first | (with_reducible first | exact HB.out | apply below_alloc | apply pw_below_drewN | apply below_drew1 | refine below_set ?_ GE591.out) | exact HB.out)⟩
end Go.Proofs.Ythkclagcbjnckaa.Pa

namespace Go.Proofs.Ythkclagcbjnckaa.Pa
open Go.RowKit Go.Proofs.YthkclagcbjnckaaW.PrintWords Go.Proofs.YthkclagcbjnckaaW.PrintLast Go.Proofs.YthkclagcbjnckaaW.PrintMore
set_option linter.unusedVariables false
theorem big_ev (x : S27) : Ev (fun k => tenetlaw24_big.f k x.f0 x.f1 x.f2) (decide (nodes x > 400)) := by
  obtain ⟨d, _, _, h⟩ := Size_ev x 400 (by omega)
  refine Ev.congr (f := fun k => (tenetref24_Size.f k x.f0 x.f1 x.f2 ((400 : Nat) : Int)).bind fun bt => some (decide (bt.1 > 400))) (fun k => rfl) ?_
  refine Ev.bind h ?_
  have e : decide ((((min (nodes x) (400 + 1) : Nat) : Int)) > 400) = decide (nodes x > 400) := by rw [decide_eq_decide]; omega
  simp only [e]
  exact Ev.now _
theorem validRef_ev (x : S27) : Ev (fun k => tenetref24_Valid.f k x.f0 x.f1 x.f2) (validB x) := by
  obtain ⟨d, hd1, hd2, h⟩ := Size_ev x 60 (by omega)
  refine Ev.congr (f := fun k => (tenetref24_Size.f k x.f0 x.f1 x.f2 ((60 : Nat) : Int)).bind fun bt303 => (if bt303.1 ≤ 60 then (if bt303.2 ≤ 12 then ((tenetref24_formed.f k x.f0 x.f1 x.f2 1000000).bind fun t305 => (some t305)) else (some false)) else (some false))) (fun k => rfl) ?_
  refine Ev.bind h ?_
  unfold validB
  by_cases h1 : nodes x ≤ 60
  · have e := hd2 h1
    subst e
    rw [decide_eq_true h1, Bool.true_and]
    simp only [if_pos (show ((min (nodes x) (60 + 1) : Nat) : Int) ≤ 60 by omega)]
    by_cases h2 : depth x ≤ 12
    · rw [decide_eq_true h2, Bool.true_and]
      simp only [if_pos (show ((depth x : Nat) : Int) ≤ 12 by omega)]
      exact Ev.bind (formedRef_ev 1000000 x) (Ev.now _)
    · rw [decide_eq_false h2, Bool.false_and, Bool.false_and]
      simp only [if_neg (show ¬ ((depth x : Nat) : Int) ≤ 12 by omega)]
      exact Ev.now _
  · rw [decide_eq_false h1, Bool.false_and, Bool.false_and, Bool.false_and]
    simp only [if_neg (show ¬ ((min (nodes x) (60 + 1) : Nat) : Int) ≤ 60 by omega)]
    exact Ev.now _
section
variable (k : Nat) (a b : List S60) (i j : Int)
theorem eqm_l0_ge (h : ¬ i < (a.length : Int)) : tenetref24_EqMonos.l0 (k + 1) a b i = some true := by rw [tenetref24_EqMonos.l0, if_neg h]
theorem eqm_l0_ne (h : i < (a.length : Int)) (h0 : 0 ≤ i) (h1 : i < (b.length : Int)) (he : ¬ (rd_T60 a i).f0 = (rd_T60 b i).f0) : tenetref24_EqMonos.l0 (k + 1) a b i = tenetref24_EqMonos.j1 k a b i true := by
  rw [tenetref24_EqMonos.l0, if_pos h, if_pos h0, if_pos h1, if_neg he]
theorem eqm_l0_eq (h : i < (a.length : Int)) (h0 : 0 ≤ i) (h1 : i < (b.length : Int)) (he : (rd_T60 a i).f0 = (rd_T60 b i).f0) : tenetref24_EqMonos.l0 (k + 1) a b i = tenetref24_EqMonos.j1 k a b i ((((rd_T60 a i).f1).length : Int) != (((rd_T60 b i).f1).length : Int)) := by
  rw [tenetref24_EqMonos.l0, if_pos h, if_pos h0, if_pos h1, if_pos he]
theorem eqm_j1_true : tenetref24_EqMonos.j1 (k + 1) a b i true = some false := by rw [tenetref24_EqMonos.j1, if_pos rfl]
theorem eqm_j1_false : tenetref24_EqMonos.j1 (k + 1) a b i false = tenetref24_EqMonos.l1 k a b i 0 := by rw [tenetref24_EqMonos.j1, if_neg (by simp)]
theorem eqm_l1_ge (h0 : 0 ≤ i) (h : i < (a.length : Int)) (hj : ¬ j < (((rd_T60 a i).f1).length : Int)) : tenetref24_EqMonos.l1 (k + 1) a b i j = tenetref24_EqMonos.l0 k a b (wrap64 (i + 1)) := by
  rw [tenetref24_EqMonos.l1, if_pos h0, if_pos h, if_neg hj]
theorem eqm_l1_lt (h0 : 0 ≤ i) (h : i < (a.length : Int)) (hj : j < (((rd_T60 a i).f1).length : Int)) (hj0 : 0 ≤ j) (hb : i < (b.length : Int)) (hjb : j < (((rd_T60 b i).f1).length : Int)) : tenetref24_EqMonos.l1 (k + 1) a b i j =
    if rd ((rd_T60 a i).f1) j = rd ((rd_T60 b i).f1) j then tenetref24_EqMonos.l1 k a b i (wrap64 (j + 1)) else some false := by
  rw [tenetref24_EqMonos.l1, if_pos h0, if_pos h, if_pos hj, if_pos hj0, if_pos hb, if_pos hjb]
end
theorem eqMonos_ev (a b : List S60) (ha : a.length ≤ 1000000000) (hla : ∀ x ∈ a, x.f1.length ≤ 1000000000) : Ev (fun k => tenetref24_EqMonos.f k a b) (decide (pm a = pm b)) := by
  by_cases hab : a.length = b.length
  case neg =>
    have : pm a ≠ pm b := fun e => hab (by have := congrArg List.length e; rwa [pm_length, pm_length] at this)
    rw [decide_eq_false this]
    refine Ev.congr (f := fun _ => some false) (fun k => ?_) (Ev.now _)
    rw [tenetref24_EqMonos.f, if_neg (by omega)]
  have inner : ∀ (i : Nat) (x y : S60) (res : Bool), rd_T60 a (i : Int) = x → rd_T60 b (i : Int) = y → i < a.length → x.f1.length = y.f1.length → x.f1.length ≤ 1000000000 →
      Ev (fun k => tenetref24_EqMonos.l0 k a b ((i + 1 : Nat) : Int)) res →
      ∀ (rx px ry py : List Int), x.f1 = px ++ rx → y.f1 = py ++ ry → px.length = py.length → Ev (fun k => tenetref24_EqMonos.l1 k a b (i : Int) (px.length : Int)) (decide (rx = ry) && res) := by
    intro i x y res ex ey hi hl hxl hres rx
    have hib : i < b.length := by omega
    induction rx with
    | nil =>
      intro px ry py h1 h2 h3
      rw [List.append_nil] at h1
      have : ry = [] := by
        have := congrArg List.length h2
        rw [List.length_append, ← h3, ← h1, ← hl] at this
        exact List.length_eq_zero_iff.1 (by omega)
      subst this
      refine Ev.step (fun k => eqm_l1_ge k a b _ _ (by omega) (by omega) (by rw [ex, h1]; omega)) ?_
      rw [wrap_succ _ (by omega), decide_eq_true rfl, Bool.true_and]
      exact hres
    | cons n rx ih =>
      intro px ry py h1 h2 h3
      have hlp : px.length < x.f1.length := by rw [h1]; simp
      cases ry with
      | nil => exfalso; rw [List.append_nil] at h2; rw [← h2] at h3; omega
      | cons m ry =>
        have e1 : rd x.f1 (px.length : Int) = n := by rw [h1]; exact rdI_mid _ _ _
        have e2 : rd y.f1 (px.length : Int) = m := by rw [h2, h3]; exact rdI_mid _ _ _
        refine Ev.step (fun k => eqm_l1_lt k a b _ _ (by omega) (by omega) (by rw [ex]; omega) (by omega) (by omega) (by rw [ey, ← hl]; omega)) ?_
        rw [ex, ey, e1, e2]
        by_cases hnm : n = m
        · simp only [if_pos hnm]
          rw [wrap_succ _ (by omega)]
          have h := ih (px ++ [n]) ry (py ++ [m]) (by rw [h1]; simp) (by rw [h2]; simp) (by simp [h3])
          rw [List.length_append, List.length_singleton] at h
          have e : decide (n :: rx = m :: ry) = decide (rx = ry) := by rw [decide_eq_decide]; simp [hnm]
          rw [e]
          exact h
        · simp only [if_neg hnm]
          have e : decide (n :: rx = m :: ry) = false := decide_eq_false (by simp [hnm])
          rw [e, Bool.false_and]
          exact Ev.now _
  have loop : ∀ (r pre s pre' : List S60), a = pre ++ r → b = pre' ++ s → pre.length = pre'.length → Ev (fun k => tenetref24_EqMonos.l0 k a b (pre.length : Int)) (decide (pm r = pm s)) := by
    intro r
    induction r with
    | nil =>
      intro pre s pre' h1 h2 h3
      rw [List.append_nil] at h1
      have : s = [] := by
        have := congrArg List.length h2
        rw [List.length_append, ← h3, ← h1, ← hab] at this
        exact List.length_eq_zero_iff.1 (by omega)
      subst this
      rw [decide_eq_true rfl]
      exact Ev.step (f := fun _ => some true) (fun k => eqm_l0_ge k a b _ (by rw [h1]; omega)) (Ev.now _)
    | cons x r ih =>
      intro pre s pre' h1 h2 h3
      cases s with
      | nil =>
        exfalso
        rw [List.append_nil] at h2
        rw [h1, h2, List.length_append, List.length_cons] at hab
        omega
      | cons y s =>
        have hlt : pre.length < a.length := by rw [h1]; simp
        have ex : rd_T60 a (pre.length : Int) = x := by rw [h1]; exact rdM_mid _ _ _
        have ey : rd_T60 b (pre.length : Int) = y := by rw [h2, h3]; exact rdM_mid _ _ _
        have e0 : (pm (x :: r) = pm (y :: s)) ↔ (x.f0 = y.f0 ∧ x.f1 = y.f1 ∧ pm r = pm s) := by
          simp only [pm, pairOf, List.map_cons, List.cons.injEq, Prod.mk.injEq]
          exact ⟨fun h => ⟨h.1.2, h.1.1, h.2⟩, fun h => ⟨⟨h.2.1, h.1⟩, h.2.2⟩⟩
        by_cases hf : x.f0 = y.f0
        · refine Ev.step (fun k => eqm_l0_eq k a b _ (by omega) (by omega) (by omega) (by rw [ex, ey]; exact hf)) ?_
          rw [ex, ey]
          by_cases hl : x.f1.length = y.f1.length
          · have hb : (((x.f1).length : Int) != ((y.f1).length : Int)) = false := by rw [hl]; exact bne_self_eq_false _
            rw [hb]
            refine Ev.step (fun k => eqm_j1_false k a b _) ?_
            have hn := ih (pre ++ [x]) s (pre' ++ [y]) (by rw [h1]; simp) (by rw [h2]; simp) (by simp [h3])
            rw [List.length_append, List.length_singleton] at hn
            have := inner pre.length x y _ ex ey hlt hl (hla x (by rw [h1]; simp)) hn x.f1 [] y.f1 [] rfl rfl rfl
            have e : decide (pm (x :: r) = pm (y :: s)) = (decide (x.f1 = y.f1) && decide (pm r = pm s)) := by
              rw [Bool.eq_iff_iff, decide_eq_true_iff, Bool.and_eq_true, decide_eq_true_iff, decide_eq_true_iff, e0]
              exact ⟨fun h => h.2, fun h => ⟨hf, h⟩⟩
            rw [e]
            exact this
          · have hb : (((x.f1).length : Int) != ((y.f1).length : Int)) = true := by rw [bne_iff_ne]; omega
            rw [hb, decide_eq_false (fun h => hl (by rw [(e0.1 h).2.1]))]
            exact Ev.step (f := fun _ => some false) (fun k => eqm_j1_true k a b _) (Ev.now _)
        · rw [decide_eq_false (fun h => hf (e0.1 h).1)]
          refine Ev.step (fun k => eqm_l0_ne k a b _ (by omega) (by omega) (by omega) (by rw [ex, ey]; exact hf)) ?_
          exact Ev.step (f := fun _ => some false) (fun k => eqm_j1_true k a b _) (Ev.now _)
  refine Ev.congr (f := fun k => tenetref24_EqMonos.l0 k a b (([] : List S60).length : Int)) (fun k => ?_) (loop a [] b [] rfl rfl rfl)
  rw [tenetref24_EqMonos.f, if_pos (by omega)]
  rfl
section
variable (k : Nat) (l acc : List S60) (i : Int)
theorem copied_ge (h : ¬ i < (l.length : Int)) : tenetref24_copied.l0 (k + 1) l acc i = some acc := by rw [tenetref24_copied.l0, if_neg h]
theorem copied_lt (h : i < (l.length : Int)) (h0 : 0 ≤ i) (h1 : ([] : List Int).length + (rd_T60 l i).f1.length < 17592186044416) (h2 : acc.length < 4398046511104) :
    tenetref24_copied.l0 (k + 1) l acc i = tenetref24_copied.l0 k l (acc ++ [⟨(rd_T60 l i).f0, [] ++ (rd_T60 l i).f1⟩]) (wrap64 (i + 1)) := by
  rw [tenetref24_copied.l0, if_pos h, if_pos h0, Option.bind_some, if_pos h1, if_pos h2]
end
theorem lt17b {n : Nat} (h : n ≤ 1000000000) : ([] : List Int).length + n < 17592186044416 := by simp; omega
theorem lt42' {n : Nat} (h : n ≤ 1000000000) : n < 4398046511104 := by omega
theorem copied_ev (l : List S60) (hl : l.length ≤ 1000000000) (hle : ∀ x ∈ l, x.f1.length ≤ 1000000000) : Ev (fun k => tenetref24_copied.f k l) l := by
  have loop : ∀ (r pre : List S60), l = pre ++ r → Ev (fun k => tenetref24_copied.l0 k l pre (pre.length : Int)) l := by
    intro r
    induction r with
    | nil =>
      intro pre hp
      rw [List.append_nil] at hp
      refine Ev.step (f := fun _ => some pre) (fun k => copied_ge k l pre _ (by rw [hp]; omega)) ?_
      rw [hp]
      exact Ev.now _
    | cons x r ih =>
      intro pre hp
      have hlt : pre.length < l.length := by rw [hp]; simp
      have ex : rd_T60 l (pre.length : Int) = x := by rw [hp]; exact rdM_mid _ _ _
      refine Ev.step (fun k => copied_lt k l pre _ (by omega) (by omega) (by rw [ex]; exact lt17b (hle x (by rw [hp]; simp))) (lt42' (by omega))) ?_
      rw [ex, wrap_succ _ (by omega), List.nil_append]
      have h := ih (pre ++ [x]) (by rw [hp]; simp)
      rw [List.length_append, List.length_singleton] at h
      exact h
  exact Ev.congr (fun k => rfl) (loop l [] rfl)
noncomputable def errN (x : S27) : Int := if validB x = true then (if (polyS x).isSome = true then 0 else 2) else 4
def IsNF (x : S27) (l : List S60) : Prop := ∃ p, polyS x = some p ∧ SortedM l ∧ (pm l).Perm p ∧ NF p
theorem IsNF.ref {x : S27} {l : List S60} (h : IsNF x l) : RefNF l := by
  obtain ⟨p, _, h2, h3, h4⟩ := h
  exact ⟨h2, nf_perm h3.symm h4⟩
theorem IsNF.uniq {x : S27} {l l' : List S60} (h : IsNF x l) (h' : IsNF x l') : l = l' := by
  obtain ⟨p, a1, a2, a3, _⟩ := h
  obtain ⟨q, b1, b2, b3, _⟩ := h'
  rw [a1] at b1
  injection b1 with b1
  subst b1
  exact sorted_uniq a2 b2 (pm_inj_perm (a3.trans b3.symm))
theorem RefNF.len {l : List S60} (h : RefNF l) : l.length ≤ 200 := by have := h.nf.len; rwa [pm_length] at this
def NormAns (x : S27) (l : List S60) (er : Int) : Prop := er = errN x ∧ (er = 0 → IsNF x l) ∧ (er ≠ 0 → l = [])
theorem NormAns.uniq {x : S27} {l l' : List S60} {er er' : Int} (h : NormAns x l er) (h' : NormAns x l' er') : l = l' ∧ er = er' := by
  obtain ⟨a1, a2, a3⟩ := h
  obtain ⟨b1, b2, b3⟩ := h'
  have e : er = er' := a1.trans b1.symm
  subst e
  by_cases h0 : er = 0
  · exact ⟨(a2 h0).uniq (b2 h0), rfl⟩
  · exact ⟨(a3 h0).trans (b3 h0).symm, rfl⟩
theorem normRef_valid (x : S27) (hv : validB x = true) : ∃ l ok, Ev (fun k => tenetref24_normal.f k x.f0 x.f1 x.f2) (l, ok) ∧ ok = (polyS x).isSome ∧ (ok = true → IsNF x l) := by
  obtain ⟨e, rfl, ht⟩ := valid_ex hv
  obtain ⟨l, ok, h1, h2, h3⟩ := normRef_ev e (by omega)
  refine ⟨l, ok, h1, by rw [polyS_of]; exact h2, fun h => ?_⟩
  rw [h] at h2
  cases hp : polyOf e with
  | none => rw [hp] at h2; cases h2
  | some p =>
    obtain ⟨s, q⟩ := h3 p hp
    exact ⟨p, by rw [polyS_of]; exact hp, s, q, nf_poly e p (by omega) hp⟩
theorem refNormal_ev (x : S27) : ∃ l er, Ev (fun k => tenetref24_Normal.f k x.f0 x.f1 x.f2) (l, er) ∧ NormAns x l er := by
  cases hv : validB x with
  | false =>
    refine ⟨[], 4, Ev.congr (fun k => rfl) (Ev.bind (validRef_ev x) ?_), by simp [errN, hv], by simp, by simp⟩
    rw [hv]
    simp only [Bool.false_eq_true, if_false]
    exact Ev.now _
  | true =>
    obtain ⟨l, ok, h1, h2, h3⟩ := normRef_valid x hv
    cases ok with
    | false =>
      refine ⟨[], 2, Ev.congr (fun k => rfl) (Ev.bind (validRef_ev x) ?_), by simp [errN, hv, ← h2], by simp, by simp⟩
      rw [hv]
      simp only [if_true]
      refine Ev.bind h1 ?_
      simp only [Bool.false_eq_true, if_false]
      exact Ev.now _
    | true =>
      have hn := h3 rfl
      refine ⟨l, 0, Ev.congr (fun k => rfl) (Ev.bind (validRef_ev x) ?_), by simp [errN, hv, ← h2], fun _ => hn, by simp⟩
      rw [hv]
      simp only [if_true]
      refine Ev.bind h1 ?_
      simp only [if_true]
      exact Ev.bind (copied_ev l (by have := hn.ref.len; omega) (fun m hm => by rw [(hn.ref.at_ hm).1]; omega)) (Ev.now _)
end Go.Proofs.Ythkclagcbjnckaa.Pa

namespace Go.Proofs.Ythkclagcbjnckaa.Pa
open Go.RowKit Go.Proofs.RawMap Go.Proofs.YthkclagcbjnckaaW.PrintWords Go.Proofs.YthkclagcbjnckaaW.PrintLast Go.Proofs.YthkclagcbjnckaaW.PrintMore
set_option linter.unusedVariables false
set_option linter.unusedSimpArgs false
def IsR (w : World) (l : List Int) (e : Ending) (w' : World) : Prop := ∃ v, e = .returned v ∧ (Kd.int .i64).R 3 w' w.heap.size (fun _ => True) v l ∧ Below w.heap.size w w'
set_option maxRecDepth 100000 in
set_option maxHeartbeats 4000000 in
theorem cloneI_c (A : Option Addr) (c : Nat) (l : List Int) (w : World) (hr : (Kd.int .i64).C w A l.length l) (hl : l.length ≤ 1000000000) :
    Calls Try.prog 89 #[.slice A l.length c] w (IsR w l) := by
  have q33 : ∀ (w : World) (a : Option Addr) (n c n' c' : Nat), (binOp .eql 33 (.slice a n c) (.slice none n' c')).run Try.prog w = .ok (.bool a.isNone) w := fun w a n c n' c' => Lib.run_eql_slice_nil w _ _ a n c n' c' Try.underlying33
  have HR := Aside0.mk hr
  have HL := Aside0.mk hl
  clear hl
  cases A with
  | none =>
    have : l = [] := by
      cases l with
      | nil => rfl
      | cons a r => obtain ⟨ad, e, _⟩ := hr.2.2 (by simp); cases e
    clear hr
    subst this
    go_enter Try.func89, Try.ntmps89
    go_wp2
    go_ret
    exact ⟨_, rfl, Kd.R_nil _ _ _ _ _, Below.refl _ _⟩
  | some a =>
    clear hr
    have HB := Aside0.mk (Below.refl w.heap.size w)
    go_enter Try.func89, Try.ntmps89
    go_wp2_with (first
      | ((with_reducible refine gate_dst (N := 5) rfl ?_); refine Kd.R_lit (Kd.int .i64) (w0 := w) w.heap.size 3 ?hg (N := 5) ?hd (xs := ([] : List Int)) (inner := []) (ok := fun _ => True) (okp := fun _ => True) ?hr ?hp (fun _ hk => hk) trivial HB.out (Nat.le_refl _) (by simp) ?_; (case hd => rfl); (case hg => rfl); (case hr => first | (go_simp; done) | (go_simp; rfl)); (case hp => exact Reps.none _ _); intro v1 w1 ho hb hg hat; have HO := Aside0.mk ho; have HB1 := Aside0.mk hb; clear ho hb hg hat)
      | ((with_reducible refine gate_dst (N := 7) rfl ?_); refine Kd.R_append_rows (Kd.int .i64) (w0 := w) w.heap.size rfl (.tmp 5) (.tmp 6) 33 3 (.int .i64 0) 8 rfl Try.underlying33 info3 rfl (by decide) (by omega) v1 [] l _ _ _ (fun _ => True) (fun _ => False) rfl rfl ?aO ?aR (fun _ _ h => h) (fun _ h => h.elim) (fun _ _ => trivial) ?aB ?aS ?aL ?_; (case aR => exact Kd.C_below HR.out HB1.out); (case aO => exact HO.out); (case aB => exact HB1.out); (case aS => exact HB1.out.size); (case aL => have := HL.out; simp; omega); intro v2 w2 ho hb hg hat; have HO2 := Aside0.mk ho; have HB2 := Aside0.mk hb; clear ho hb hg hat))
    go_ret
    exact ⟨_, rfl, HO2.out, HB2.out⟩
end Go.Proofs.Ythkclagcbjnckaa.Pa


namespace Go.Proofs
open Go.Shelf
def Try.sortMono_ren : Go.Shelf.Ren := ⟨fun | 6 => 90 | 15 => 111 | 14 => 110 | 28 => 129 | 29 => 130 | 20 => 121 | 21 => 122 | 22 => 123 | 23 => 124 | 24 => 125 | 25 => 126 | 26 => 127 | 27 => 128 | 46 => 137 | 47 => 138 | 48 => 139 | 49 => 140 | 50 => 141 | 57 => 146 | n => n, fun | 22 => 22 | 24 => 60 | 25 => 105 | 3 => 3 | 39 => 128 | 0 => 0 | 53 => 142 | 55 => 77 | 4 => 4 | 46 => 136 | 45 => 135 | 50 => 110 | 5 => 5 | 9 => 9 | 66 => 148 | 70 => 152 | 76 => 156 | 77 => 67 | n => n, fun | n => n⟩
theorem Try.sortMono : Go.Proofs.SlLaysF0.n6 Try.prog Try.sortMono_ren := {
  mixed := by kernel_rfl
  f6 := ⟨Try.f90.name, by decide, Try.func90.trans (congrArg some (by kernel_rfl))⟩
  f14 := ⟨Try.f110.name, by decide, Try.func110.trans (congrArg some (by kernel_rfl))⟩
  f15 := Try.func111.trans (congrArg some (by kernel_rfl))
  f20 := ⟨Try.f121.name, by decide, Try.func121.trans (congrArg some (by kernel_rfl))⟩
  f21 := ⟨Try.f122.name, by decide, Try.func122.trans (congrArg some (by kernel_rfl))⟩
  f22 := ⟨Try.f123.name, by decide, Try.func123.trans (congrArg some (by kernel_rfl))⟩
  f23 := ⟨Try.f124.name, by decide, Try.func124.trans (congrArg some (by kernel_rfl))⟩
  f24 := ⟨Try.f125.name, by decide, Try.func125.trans (congrArg some (by kernel_rfl))⟩
  f25 := ⟨Try.f126.name, by decide, Try.func126.trans (congrArg some (by kernel_rfl))⟩
  f26 := ⟨Try.f127.name, by decide, Try.func127.trans (congrArg some (by kernel_rfl))⟩
  f27 := ⟨Try.f128.name, by decide, Try.func128.trans (congrArg some (by kernel_rfl))⟩
  f28 := Try.func129.trans (congrArg some (by kernel_rfl))
  f29 := Try.func130.trans (congrArg some (by kernel_rfl))
  f46 := ⟨Try.f137.name, by decide, Try.func137.trans (congrArg some (by kernel_rfl))⟩
  f47 := Try.func138.trans (congrArg some (by kernel_rfl))
  f48 := Try.func139.trans (congrArg some (by kernel_rfl))
  f49 := ⟨Try.f140.name, by decide, Try.func140.trans (congrArg some (by kernel_rfl))⟩
  f50 := ⟨Try.f141.name, by decide, Try.func141.trans (congrArg some (by kernel_rfl))⟩
  f57 := ⟨Try.f146.name, by decide, Try.func146.trans (congrArg some (by kernel_rfl))⟩
  t0 := Try.underlying0
  a0 := Try.isAgg0
  z0 := Try.sizeOf0
  v0 := Try.zeroValue0
  t3 := Try.underlying3
  a3 := Try.isAgg3
  z3 := Try.sizeOf3
  v3 := Try.zeroValue3
  t4 := Try.underlying4
  a4 := Try.isAgg4
  z4 := Try.sizeOf4
  v4 := Try.zeroValue4
  t5 := Try.underlying5
  a5 := Try.isAgg5
  z5 := Try.sizeOf5
  v5 := Try.zeroValue5
  t9 := Try.underlying9
  a9 := Try.isAgg9
  z9 := Try.sizeOf9
  v9 := Try.zeroValue9
  t22 := Try.underlying22
  a22 := Try.isAgg22
  z22 := Try.sizeOf22
  v22 := Try.zeroValue22
  t25 := Try.underlying105
  a25 := Try.isAgg105
  z25 := Try.sizeOf105
  v25 := Try.zeroValue105
  t39 := Try.underlying128
  a39 := Try.isAgg128
  z39 := Try.sizeOf128
  v39 := Try.zeroValue128
  t45 := Try.underlying135
  a45 := Try.isAgg135
  z45 := Try.sizeOf135
  v45 := Try.zeroValue135
  t46 := Try.underlying136
  a46 := Try.isAgg136
  z46 := Try.sizeOf136
  v46 := Try.zeroValue136
  t50 := Try.underlying110
  a50 := Try.isAgg110
  z50 := Try.sizeOf110
  v50 := Try.zeroValue110
  t53 := Try.underlying142
  a53 := Try.isAgg142
  z53 := Try.sizeOf142
  v53 := Try.zeroValue142
  t55 := Try.underlying77
  a55 := Try.isAgg77
  z55 := Try.sizeOf77
  v55 := Try.zeroValue77
  t66 := Try.underlying148
  a66 := Try.isAgg148
  z66 := Try.sizeOf148
  v66 := Try.zeroValue148
  t70 := Try.underlying152
  a70 := Try.isAgg152
  z70 := Try.sizeOf152
  v70 := Try.zeroValue152
  t76 := Try.underlying156
  a76 := Try.isAgg156
  z76 := Try.sizeOf156
  v76 := Try.zeroValue156
  t77 := Try.underlying67
  a77 := Try.isAgg67
  z77 := Try.sizeOf67
  v77 := Try.zeroValue67 }
end Go.Proofs

namespace Go.Proofs.Ythkclagcbjnckaa.Pa
open Go.RowKit Go.Proofs.RawMap Go.Proofs.YthkclagcbjnckaaW.PrintWords Go.Proofs.YthkclagcbjnckaaW.PrintLast Go.Proofs.YthkclagcbjnckaaW.PrintMore
set_option linter.unusedVariables false
set_option linter.unusedSimpArgs false
theorem drewN_grow (w : World) (os : Array Obj) (n : Nat) : (Go.Sort.grow w os).drewN n = Go.Sort.grow (w.drewN n) os := rfl
def CmpPost (r : Int) (W : World) (e : Ending) (w' : World) : Prop := e = .returned (.int .i64 r) ∧ ∃ q os', w' = Go.Sort.grow (W.drewN q) os'
set_option maxHeartbeats 1000000 in
theorem cmp91_c (x y : S60) (Ax Ay : Option Addr) (cx cy : Nat) (W : World) (hrx : (Kd.int .i64).C W Ax x.f1.length x.f1) (hcx : x.f1.length ≤ cx) (hry : (Kd.int .i64).C W Ay y.f1.length y.f1) (hcy : y.f1.length ≤ cy) (hl : y.f1.length ≤ 1000) :
    Calls Try.prog 91 #[.agg #[.int .i64 x.f0, .slice Ax x.f1.length cx], .agg #[.int .i64 y.f0, .slice Ay y.f1.length cy]] W (CmpPost (lexC y.f1 x.f1) W) := by
  have HB := Aside0.mk (below_alloc (below_alloc (Below.refl W.heap.size W) (.cells #[.int .i64 x.f0, .slice Ax x.f1.length cx] 60)) (.cells #[.int .i64 y.f0, .slice Ay y.f1.length cy] 60))
  have HC := Aside0.mk (cmp_c Ay cy y.f1 Ax cx x.f1 _ (Kd.C_below hry HB.out) hcy (Kd.C_below hrx HB.out) hcx hl)
  clear hrx hcx hry hcy hl
  obtain ⟨r, hr⟩ : ∃ r, r = lexC y.f1 x.f1 := ⟨_, rfl⟩
  rw [← hr] at HC ⊢
  clear hr
  go_enter Try.func91, Try.ntmps91
  go_wp2_with (go_at_call 80; refine HC.out.mono ?_; rintro e w' ⟨rfl, ⟨n, rfl⟩⟩)
  go_ret
  exact ⟨rfl, n, _, by rw [Go.Sort.alloc_eq_grow, Go.Sort.alloc_eq_grow, Go.Sort.grow_grow, drewN_grow]⟩
theorem heap_putRowK {α : Type} [Inhabited α] (enc : α → List Value) (k : Nat) (w : World) (blk off : Nat) (d : Array α) (j : Nat) (h : j ≠ blk) : (Go.Sort.putRowK enc k w blk off d).heap[j]? = w.heap[j]? := by
  unfold Go.Sort.putRowK Go.Sort.putRow Go.Sort.mapBlock
  simp only [Array.getElem?_modify]
  rw [if_neg (Ne.symm h)]
theorem heap_grow_old (w : World) (os : Array Obj) (j : Nat) (h : j < w.heap.size) : (Go.Sort.grow w os).heap[j]? = w.heap[j]? := by
  simp only [Go.Sort.grow, Array.getElem?_append, h, if_true]
theorem heap_sort {α : Type} [Inhabited α] (enc : α → List Value) (k : Nat) (w : World) (blk off m : Nat) (d : Array α) (os : Array Obj) (j : Nat) (h : j ≠ blk) (hj : j < w.heap.size) :
    (sortWorldK enc k w blk off m d os).heap[j]? = w.heap[j]? := by
  unfold sortWorldK
  rw [heap_grow_old _ _ _ (by rw [Go.Sort.size_putRowK]; exact hj), heap_putRowK _ _ _ _ _ _ _ h]
  rfl
theorem grown_sort {α : Type} [Inhabited α] (enc : α → List Value) (k : Nat) (w : World) (blk off m : Nat) (d : Array α) (os : Array Obj) : w.grownBy (sortWorldK enc k w blk off m d os) (some blk) :=
  ⟨rfl, rfl, rfl, by unfold sortWorldK; rw [Go.Sort.size_grow, Go.Sort.size_putRowK]; exact Nat.le_add_right _ _, fun i hi hne => heap_sort enc k w blk off m d os i (fun e => hne (by rw [e])) hi⟩
theorem agg60 : ∀ w, (isAgg (Try.sortMono_ren.t 24)).run Try.prog w = .ok true w := Try.isAgg60
theorem size60 : ∀ w, (Go.sizeOf (Try.sortMono_ren.t 24)).run Try.prog w = .ok 2 w := Try.sizeOf60
theorem enters91 : ∀ (args : Array Value) (w : World), (callFunc 91 args).run Try.prog w = .ok (.enter 91 args) w := enters_of Try.func91 (by kernel_rfl) rfl
theorem cell_of_heap {w w' : World} {a : Addr} (h : w'.heap[a.block]? = w.heap[a.block]?) : w'.cell? a = w.cell? a := by simp [World.cell?, h]
def SortPost (l : List S60) (w : World) (v : Value) (ok : Nat → Prop) (e : Ending) (w' : World) : Prop :=
  e = .returned (.tuple #[]) ∧ ∃ l', l'.Perm l ∧ SortedM l' ∧ Kd.V k60 60 w' w.heap.size (fun k => ok k ∨ w.heap.size ≤ k) v l' ∧ w.grownBy w' v.ownBlock
set_option maxHeartbeats 2000000 in
theorem sort_c (l : List S60) (v : Value) (w : World) (base : Nat) (ok : Nat → Prop) (hN : Kd.N k60 60 w base ok v l) (hl : l.length ≤ 1000000) (h8 : ∀ x ∈ l, x.f1.length ≤ 1000) (hd : nodupK (pm l)) :
    Calls Try.prog 90 #[v, .func (.func 91) #[] #[]] w (SortPost l w v ok) := by
  by_cases h0 : l.length = 0
  · have : l = [] := List.length_eq_zero_iff.1 h0
    subst this
    obtain ⟨A, c, rfl⟩ := Kd.N_slice hN
    refine Calls.mono (AnyF.slices_SortFunc_none (P := Try.prog) Try.sortMono A c (.func (.func 91) #[] #[]) w) ?_
    rintro e w' ⟨rfl, rfl⟩
    have hf := Kd.N_F hN
    exact ⟨rfl, [], List.Perm.refl _, by simp [SortedM], ⟨A, c, rfl, Nat.zero_le _, Kd.F_mono hf (fun k hk => .inl hk)⟩, ⟨rfl, rfl, rfl, Nat.le_refl _, fun _ _ _ => rfl⟩⟩
  obtain ⟨g, cap, rfl, hg1, hg2, cells, hcells⟩ := Kd.N_form hN (by omega)
  have hok : ok g := hN.1 g (by simp [Value.ownBlock])
  have hcap := (Kd.N_reads' hN).2.1
  haveI : Inhabited (Fin l.length) := ⟨⟨0, by omega⟩⟩
  have hel : ∀ i : Fin l.length, ∃ A c, l[i].f1.length ≤ c ∧ Kd.F (Kd.int .i64) w (fun k => ok k ∧ k ≠ g) A l[i].f1.length l[i].f1 ∧
      w.cell? ⟨g, i.val * 2, none⟩ = some (.int .i64 l[i].f0) ∧ w.cell? ⟨g, i.val * 2 + 1, none⟩ = some (.slice A l[i].f1.length c) ∧ ∀ j, w.frozen? ⟨g, i.val * 2 + j, none⟩ = false := by
    intro i
    obtain ⟨c, hcl, hFK, hcc, hfr⟩ := Kd.N_elem hN z60 (i.val : Int) (by omega) (by have := i.2; omega)
    rw [Int.toNat_natCast] at hFK hcc hfr
    have ei : l.getD i.val z60 = l[i] := by simp [List.getD_eq_getElem?_getD]
    rw [ei] at hFK
    obtain ⟨A1, c1, ec, h1, h2⟩ := k60_openF hFK
    have h3 := hcc 0 (.int .i64 l[i].f0) (by rw [ec]; rfl)
    have h4 := hcc 1 (.slice A1 l[i].f1.length c1) (by rw [ec]; rfl)
    exact ⟨A1, c1, h1, h2, h3, h4, hfr⟩
  let cA : Fin l.length → Option Addr := fun i => (hel i).choose
  let cC : Fin l.length → Nat := fun i => (hel i).choose_spec.choose
  have hsp : ∀ i : Fin l.length, l[i].f1.length ≤ cC i ∧ Kd.F (Kd.int .i64) w (fun k => ok k ∧ k ≠ g) (cA i) l[i].f1.length l[i].f1 ∧
      w.cell? ⟨g, i.val * 2, none⟩ = some (.int .i64 l[i].f0) ∧ w.cell? ⟨g, i.val * 2 + 1, none⟩ = some (.slice (cA i) l[i].f1.length (cC i)) ∧ ∀ j, w.frozen? ⟨g, i.val * 2 + j, none⟩ = false := fun i => (hel i).choose_spec.choose_spec
  generalize cA = cA at hsp
  generalize cC = cC at hsp
  let enc : Fin l.length → List Value := fun i => [.int .i64 l[i].f0, .slice (cA i) l[i].f1.length (cC i)]
  let d : Array (Fin l.length) := Array.ofFn (fun i : Fin l.length => i)
  have hds : d.size = l.length := by simp [d]
  have hdj : ∀ (j : Nat) (hj : j < l.length), d[j]! = ⟨j, hj⟩ := fun j hj => by rw [getElem!_pos d j (by rw [hds]; exact hj)]; simp [d]
  have hH : Go.Sort.HoldsK enc 2 w g 0 d := by
    intro t ht
    have ht2 : t < l.length * 2 := by have := ht; rw [Go.Sort.size_flatK, hds] at this; exact this
    have hi : t / 2 < l.length := by omega
    rw [Go.Sort.get_flatK enc 2 d t (by rw [hds]; exact ht2), hdj (t / 2) hi, Nat.zero_add]
    have hs := hsp ⟨t / 2, hi⟩
    have hfr := hs.2.2.2.2 (t % 2)
    have et : t / 2 * 2 + t % 2 = t := by omega
    rw [show (⟨t / 2, hi⟩ : Fin l.length).val = t / 2 from rfl, et] at hfr
    refine ⟨?_, hfr⟩
    rcases Nat.mod_two_eq_zero_or_one t with hm | hm
    · rw [hm]
      have e : t = t / 2 * 2 := by omega
      have h3 : w.cell? ⟨g, t / 2 * 2, none⟩ = some (.int .i64 l[(⟨t / 2, hi⟩ : Fin l.length)].f0) := hs.2.2.1
      exact (congrArg (fun q => w.cell? ⟨g, q, none⟩) e).trans h3
    · rw [hm]
      have e : t = t / 2 * 2 + 1 := by omega
      have h3 : w.cell? ⟨g, t / 2 * 2 + 1, none⟩ = some (.slice (cA ⟨t / 2, hi⟩) l[(⟨t / 2, hi⟩ : Fin l.length)].f1.length (cC ⟨t / 2, hi⟩)) := hs.2.2.2.1
      exact (congrArg (fun q => w.cell? ⟨g, q, none⟩) e).trans h3
  let cf : Fin l.length → Fin l.length → Int := fun x y => lexC l[y].f1 l[x].f1
  have hlt : ∀ x y, Go.Proofs.ltOf cf x y = decide (lexC l[x].f1 l[y].f1 > 0) := fun x y => by
    unfold Go.Proofs.ltOf
    rw [decide_eq_decide]
    exact (lexC_anti _ _).symm
  have hO : Go.Sort.SWO (Go.Proofs.ltOf cf) := {
    irrefl := fun x => by rw [hlt, lexC_self]; rfl
    trans := fun x y z h1 h2 => by
      rw [hlt, decide_eq_true_eq] at *
      exact lexC_trans h1 h2
    ntrans := fun x y z h1 h2 => by
      rw [hlt, decide_eq_false_iff_not] at *
      intro h3
      by_cases e : l[x].f1 = l[y].f1
      · rw [e] at h3; exact h2 h3
      · exact h2 (lexC_trans (lexC_tri h1 e) h3) }
  have hcmp : Go.Proofs.CmpLays Try.prog 91 #[] enc 2 cf g 0 d.size w := by
    intro m os dk hdk x y
    have hbl : ∀ k, (ok k ∧ k ≠ g) → k < w.heap.size → (sortWorldK enc 2 w g 0 m dk os).heap[k]? = w.heap[k]? := fun k hk hlt => heap_sort enc 2 w g 0 m dk os k hk.2 hlt
    have hx := hsp x
    have hy := hsp y
    refine (cmp91_c l[x] l[y] (cA x) (cA y) (cC x) (cC y) _ (Kd.F_now (Kd.F_step hx.2.1 hbl)) hx.1 (Kd.F_now (Kd.F_step hy.2.1 hbl)) hy.1 (h8 _ (List.getElem_mem _))).mono ?_
    rintro e w' ⟨rfl, q, os', rfl⟩
    exact ⟨rfl, q, os', rfl⟩
  have hsort := AnyQ.slices_SortFunc (P := Try.prog) Try.sortMono 2 agg60 size60 enc (fun _ => rfl) (fun x v hv => by simp [enc] at hv; rcases hv with rfl | rfl <;> rfl) cf hO 91 #[] g 0 cap d w enters91 hcmp hH hg2 (by rw [hds]; omega)
  rw [hds] at hsort
  refine Calls.mono hsort ?_
  rintro e w' ⟨rfl, d', n', os, hp, hs, rfl⟩
  have hd's : d'.size = l.length := by have := hp.1; rw [hds] at this; exact this
  have hperm : (d'.toList.map (fun i => l[i])).Perm l := by
    have h1 : d'.toList.Perm d.toList := by
      have := hp.2.2
      have e1 : d'.extract 0 l.length = d' := by
        apply Array.ext
        · simp; omega
        · intro j h1 h2; simp
      have e2 : d.extract 0 l.length = d := by
        apply Array.ext
        · simp; omega
        · intro j h1 h2; simp
      rw [e1, e2] at this
      exact this
    have h2 := h1.map (fun i : Fin l.length => l[i])
    have h3 : d.toList.map (fun i : Fin l.length => l[i]) = l := by
      apply List.ext_getElem
      · simp [d]
      · intro j h1 h2; simp [d]
    rw [h3] at h2
    exact h2
  have hnd : nodupK (pm (d'.toList.map (fun i => l[i]))) := by
    have h1 : (pm (d'.toList.map (fun i => l[i]))).Perm (pm l) := hperm.map _
    exact (h1.pairwise_iff (fun h e => h e.symm)).2 hd
  have hlen : (d'.toList.map (fun i => l[i])).length = l.length := by simp [hd's]
  refine ⟨rfl, d'.toList.map (fun i => l[i]), hperm, ?_, ?_, ?_⟩
  · unfold SortedM
    rw [List.pairwise_map]
    unfold nodupK pm at hnd
    rw [List.pairwise_map, List.pairwise_map] at hnd
    rw [List.pairwise_iff_getElem] at hnd ⊢
    intro i j hi hj hij
    have hi2 : i < d'.size := by simpa using hi
    have hj2 : j < d'.size := by simpa using hj
    have h1 := hs i j (Nat.zero_le _) hij (by omega)
    rw [hlt, decide_eq_false_iff_not, getElem!_pos d' i hi2, getElem!_pos d' j hj2] at h1
    have h2 := hnd i j hi hj hij
    rw [Array.getElem_toList, Array.getElem_toList] at h2 ⊢
    exact lexC_tri h1 (fun e => h2 e.symm)
  · have hok' : ok g := hok
    refine ⟨some ⟨g, 0, none⟩, cap, by rw [hlen], by rw [hlen]; exact hcap, ?_⟩
    rw [hlen]
    intro W' hW
    refine ⟨hlen, by omega, fun _ => ⟨⟨g, 0, none⟩, rfl, fun j p hj => ?_⟩⟩
    have hj2 : j < d'.size := by
      have := (List.getElem?_eq_some_iff.1 hj).1
      rw [hlen] at this; omega
    have hp2 : p = l[d'[j]] := by
      have := (List.getElem?_eq_some_iff.1 hj).2
      rw [List.getElem_map, Array.getElem_toList] at this
      exact this.symm
    have hx := hsp d'[j]
    have hHw := Go.Proofs.holdsK_sortWorldK_c enc 2 w g 0 d d' n' os hH hg2 (by rw [hd's, hds])
    have hgs : g < (sortWorldK enc 2 w g 0 n' d' os).heap.size := by have := (grown_sort enc 2 w g 0 n' d' os).size; omega
    have hgW := hW g (.inl hok') hgs
    refine ⟨enc d'[j], rfl, ?_, fun i u hu => ?_⟩
    · subst hp2
      refine k60_mk W' l[d'[j]] hx.1 ?_
      refine hx.2.1 W' (fun k hk hlt => ?_)
      have hks : k < (sortWorldK enc 2 w g 0 n' d' os).heap.size := by have := (grown_sort enc 2 w g 0 n' d' os).size; omega
      rw [hW k (.inl hk.1) hks]
      exact heap_sort enc 2 w g 0 n' d' os k hk.2 hlt
    · have hi : i < 2 := by have := (List.getElem?_eq_some_iff.1 hu).1; simpa [enc] using this
      have hc := (Go.Sort.HoldsK.cell (enc := enc) (k := 2) hHw (i := j) (c := i) hj2 hi).1
      rw [getElem!_pos d' j hj2] at hc
      rw [add_at, cell_of_heap (w := sortWorldK enc 2 w g 0 n' d' os) hgW]
      show (sortWorldK enc 2 w g 0 n' d' os).cell? ⟨g, 0 + (j * 2 + i), none⟩ = some u
      rw [show (0 + (j * 2 + i)) = 0 + j * 2 + i by omega, hc]
      obtain ⟨h1, h2⟩ := List.getElem?_eq_some_iff.1 hu
      rw [getElem!_pos (enc d'[j]) i h1, h2]
  · have : (Value.slice (some ⟨g, 0, none⟩) l.length cap).ownBlock = some g := by simp [Value.ownBlock]
    rw [this]
    exact grown_sort enc 2 w g 0 n' d' os
end Go.Proofs.Ythkclagcbjnckaa.Pa

namespace Go.Proofs.Ythkclagcbjnckaa.Pa
open Go.RowKit Go.Proofs.RawMap Go.Proofs.YthkclagcbjnckaaW.PrintWords Go.Proofs.YthkclagcbjnckaaW.PrintLast Go.Proofs.YthkclagcbjnckaaW.PrintMore
set_option linter.unusedVariables false
set_option linter.unusedSimpArgs false
theorem C_box (W : World) (g : Nat) (xs : List Int) (t : TypeId) (fr : Nat × Nat) (hl : xs.length ≤ 1000) (hW : W.heap[g]? = some (.cells (xs.map (Value.int .i64)).toArray t fr)) : (Kd.int .i64).C W (some ⟨g, 0, none⟩) xs.length xs := by
  refine ⟨rfl, by omega, fun _ => ⟨_, rfl, fun j p hj => ⟨[.int .i64 p], rfl, rfl, fun i u hu => ?_⟩⟩⟩
  have hi : i = 0 := by have := (List.getElem?_eq_some_iff.1 hu).1; simp at this; exact this
  subst hi
  simp only [List.getElem?_cons_zero, Option.some.injEq] at hu
  subst hu
  rw [add_at]
  simp only [World.cell?, hW]
  show ((xs.map (Value.int .i64)).toArray)[0 + (j * 1 + 0)]? = some (Value.int .i64 p)
  rw [show 0 + (j * 1 + 0) = j by omega]
  simp [hj]
def ListedPost (p : Po) (w : World) (e : Ending) (w' : World) : Prop :=
  ∃ v l, e = .returned v ∧ SortedM l ∧ (pm l).Perm p ∧ Kd.V k60 60 w' w.heap.size (fun k => w.heap.size ≤ k) v l ∧ Below w.heap.size w w'
set_option maxRecDepth 100000 in
set_option maxHeartbeats 4000000 in
theorem listed_c (b : Nat) (p : Po) (w : World) (h : PIs w b p) (g : NF p) : Calls Try.prog 67 #[.map (some b)] w (ListedPost p w) := by
  have ga : ∀ (W : World) (o : Obj), W.grownBy (W.alloc o) none := fun W o => World.grownBy_alloc W o none
  have hnd := h.nodup
  have HLT := Aside0.mk h.lt
  obtain ⟨w0, hrun, hra, hgr, hsz⟩ := MapIs.range (P := Try.prog) h Try.underlying63
  have hb0 : Below w.heap.size w w0 := (Below.refl _ _).grown hgr (Nat.le_refl _) (fun k hk => by cases hk)
  have HA := Aside0.mk hra
  have HB := Aside0.mk hb0
  have GA := Aside0.mk ga
  have HND := Aside0.mk hnd
  have HG := Aside0.mk g
  have HZ := Aside0.mk (show w.heap.size < w0.heap.size by omega)
  clear h hra hgr hsz hb0 ga hnd g
  go_enter Try.func67, Try.ntmps67
  go_wp2
  go_loopg [3] p.length (fun kq v3 w' => ∃ (v : Value) (left : Po) (l : List S60), v3 = v ∧ left.length = kq ∧ (pm l ++ left).Perm p ∧ Ranges w' VK b w.heap.size (p.map enc) (left.map enc) ∧ Kd.N k60 60 w' w.heap.size (fun k => w.heap.size < k) v l ∧ Below w.heap.size w w' ∧ w.heap.size < w'.heap.size)
  case atStart => exact ⟨_, p, [], rfl, rfl, List.Perm.refl _, HA.out, Kd.N_nil _ _ _ _ _, HB.out, HZ.out⟩
  case round =>
    obtain ⟨v3, left, l, hv3, rfl, hpm, HR, HN, HB, hsz⟩ := hrel
    have hv3 := hv3.symm
    subst hv3
    have HPM := Aside0.mk hpm
    have HR := Aside0.mk HR
    have HN := Aside0.mk HN
    have HB := Aside0.mk HB
    have HS := Aside0.mk hsz
    clear hpm hsz
    rcases HR.out.next (P := Try.prog) 0 with ⟨h0, hrun2⟩ | ⟨x1, key, v, x2, w1, hle, hmem, hVk, hrun2, hrng, hg1, hs1, hen⟩
    · have hl0 : left = [] := by cases left with | nil => rfl | cons a r => cases h0
      subst hl0
      clear h0
      have hpl : (pm l).Perm p := by have := HPM.out; rwa [List.append_nil] at this
      have hll : l.length ≤ 200 := by rw [← pm_length, hpl.length_eq]; exact HG.out.len
      have HPL := Aside0.mk hpl
      have HC := Aside0.mk (sort_c l v3 _ w.heap.size (fun k => w.heap.size < k) HN.out (by omega) (fun x hx => by have h8 : x.f1.length = 8 := (HG.out.good.ge _ (hpl.mem_iff.1 (List.mem_map.2 ⟨x, hx, rfl⟩))).1; omega) ((hpl.pairwise_iff (fun h e => h e.symm)).2 HND.out))
      clear hpl hll
      go_wp2_with fail
      refine HC.out.mono ?_
      rintro e w2 ⟨rfl, l', hl1, hl2, hV, hgw⟩
      have HL1 := Aside0.mk hl1
      have HL2 := Aside0.mk hl2
      have HV := Aside0.mk hV
      have HGW := Aside0.mk hgw
      clear hl1 hl2 hV hgw
      go_wp2
      go_ret
      exact ⟨v3, l', rfl, HL2.out, (HL1.out.map pairOf).trans HPL.out, Kd.V_mono HV.out (fun k hk => by have := HB.out.size; omega), HB.out.grown HGW.out HB.out.size (fun k hk => Kd.N_base HN.out k hk)⟩
    · obtain ⟨y1, m, y2, rfl, rfl, he, rfl⟩ := split_map hle
      have hmem0 : m ∈ p := mem_enc (by rw [he]; exact hmem)
      obtain ⟨mx, mc⟩ := m
      obtain ⟨a0, a1, a2, a3, a4, a5, a6, a7, rfl⟩ : ∃ a0 a1 a2 a3 a4 a5 a6 a7, mx = [a0, a1, a2, a3, a4, a5, a6, a7] := eight (HG.out.good.ge _ hmem0).1
      injection he with hk1 hv1
      subst hk1
      subst hv1
      have e0 : keyV [a0, a1, a2, a3, a4, a5, a6, a7] = .agg #[.int .i64 a0, .int .i64 a1, .int .i64 a2, .int .i64 a3, .int .i64 a4, .int .i64 a5, .int .i64 a6, .int .i64 a7] := rfl
      rw [e0] at hrun2 hen
      have hll : l.length ≤ 200 := by
        have h1 := HPM.out.length_eq
        have h2 := HG.out.len
        rw [List.length_append, pm_length] at h1
        omega
      have hs2 := HS.out
      have hlt1 : w.heap.size < w1.heap.size := by omega
      have hb1 : Below w.heap.size w w1 := HB.out.grown hg1 HB.out.size (fun k hk => by injection hk with hk; omega)
      have hN1 := Kd.N_grown HN.out hg1 (fun k hk e => by injection e with e; omega)
      have HLL := Aside0.mk hll
      have H1 := Aside0.mk hlt1
      have HB1 := Aside0.mk hb1
      have HN1 := Aside0.mk hN1
      have HRN := Aside0.mk hrng
      have HC := Aside0.mk (cloneI_c (some ⟨w1.heap.size, 0, none⟩) 8 [a0, a1, a2, a3, a4, a5, a6, a7] (w1.alloc (.cells #[.int .i64 a0, .int .i64 a1, .int .i64 a2, .int .i64 a3, .int .i64 a4, .int .i64 a5, .int .i64 a6, .int .i64 a7] 76)) (C_box _ _ _ 76 (0, 0) (by simp) (heap_alloc_new _ _)) (by simp))
      clear hle hmem hVk hrng hg1 e0 hmem0 hs1 hll hs2 hlt1 hb1 hN1
      go_wp2_with fail
      refine HC.out.mono ?_
      rintro e w2 ⟨v2, rfl, hR, hb2⟩
      obtain ⟨A2, c2, rfl⟩ := Kd.R_slice hR
      have hsz2 : w1.heap.size + 1 ≤ w2.heap.size := by have := hb2.size; simpa using this
      have hb12 : Below w1.heap.size w1 w2 := below_then (below_alloc (Below.refl _ _) _) (by simp) hb2
      have hN2 := Kd.N_below HN1.out hb12
      have hra2 := (HRN.out.kept (GA.out w1 (.cells #[.int .i64 a0, .int .i64 a1, .int .i64 a2, .int .i64 a3, .int .i64 a4, .int .i64 a5, .int .i64 a6, .int .i64 a7] 76)) (by simp) (by simp)).kept (grown_of_below hb2 none) (by simp) (by simp)
      have hbw : Below w.heap.size w w2 := below_then HB1.out HB1.out.size hb12
      have hR' := Kd.R_mono (ok' := fun k => w.heap.size < k ∧ some k ≠ v3.ownBlock) (Kd.R_bound hR) (fun k hk => ⟨by have h1 := hk.2.1; have h2 := H1.out; rw [World.size_alloc] at h1; omega, fun e => by have h3 := Kd.N_lt HN1.out k e.symm; have h1 := hk.2.1; rw [World.size_alloc] at h1; omega⟩)
      have HR2 := Aside0.mk hR'
      have HN2 := Aside0.mk hN2
      have HRA := Aside0.mk hra2
      have HBW := Aside0.mk hbw
      have HS2 := Aside0.mk (show w.heap.size < w2.heap.size by have := H1.out; omega)
      clear hR hb2 hb12 hN2 hra2 hbw hsz2 hR'
      go_wp2_with ((with_reducible refine gate_dst (N := 19) rfl ?_); refine Kd.N_append k60 (w0 := w) w.heap.size rfl (.tmp 13) (.tmp 18) 22 60 (.agg #[(.int .i64 0), (.slice none 0 0)]) 32 rfl Try.underlying22 info60 rfl (by decide) (by omega) v3 l (⟨mc, [a0, a1, a2, a3, a4, a5, a6, a7]⟩ : S60) [.int .i64 mc, .slice A2 [a0, a1, a2, a3, a4, a5, a6, a7].length c2] (fun k => w.heap.size < k) (fun k => w.heap.size < k ∧ some k ≠ v3.ownBlock) rfl rfl ?aP (fun _ hk => hk) ?aF ?aO ?aB ?aS ?aL ?_; (case aP => exact k60_mkF _ _ _ (Kd.R_reads' HR2.out).2.1 (Kd.R_F HR2.out)); (case aF => exact (fun k hk => Nat.lt_of_lt_of_le HS2.out hk)); (case aO => exact HN2.out); (case aB => exact HBW.out); (case aS => exact HBW.out.size); (case aL => have := HLL.out; omega); intro v4 w4 ho hb hg hat; have HO := Aside0.mk ho; have HB4 := Aside0.mk hb; have HG4 := Aside0.mk hg; clear ho hb hg hat)
      go_roundg (y1 ++ y2).length
      case rel =>
        refine ⟨v4, y1 ++ y2, l ++ [⟨mc, [a0, a1, a2, a3, a4, a5, a6, a7]⟩], rfl, rfl, ?_, ?_, HO.out, HB4.out, ?_⟩
        · refine List.Perm.trans ?_ HPM.out
          rw [pm_append, List.append_assoc]
          exact List.Perm.append_left _ (List.perm_middle (l₁ := y1) (l₂ := y2)).symm
        · rw [List.map_append]
          exact HRA.out.kept HG4.out (fun e => by have h1 := HN2.out.1 b e.symm; have h2 := HLT.out; omega) (fun e => by have h1 := HN2.out.1 _ e.symm; omega)
        · have h1 := HG4.out.size; have h2 := HS2.out; omega
      case measure => simp
end Go.Proofs.Ythkclagcbjnckaa.Pa

namespace Go.Proofs.Ythkclagcbjnckaa.Pa
open Go.RowKit Go.Proofs.RawMap Go.Proofs.YthkclagcbjnckaaW.PrintWords Go.Proofs.YthkclagcbjnckaaW.PrintLast Go.Proofs.YthkclagcbjnckaaW.PrintMore
set_option linter.unusedVariables false
set_option linter.unusedSimpArgs false
theorem normAns_ex (x : S27) : ∃ a : List S60 × Int, NormAns x a.1 a.2 := by
  obtain ⟨l, er, _, h⟩ := refNormal_ev x
  exact ⟨(l, er), h⟩
noncomputable def normA (x : S27) : List S60 × Int := (normAns_ex x).choose
theorem normA_ans (x : S27) : NormAns x (normA x).1 (normA x).2 := (normAns_ex x).choose_spec
theorem normA_of {x : S27} {l : List S60} {er : Int} (h : NormAns x l er) : normA x = (l, er) := by
  obtain ⟨h1, h2⟩ := (normA_ans x).uniq h
  exact Prod.ext h1 h2
def NormalPost (x : S27) (w : World) (e : Ending) (w' : World) : Prop :=
  ∃ v, e = .returned (.tuple #[v, .int .i64 (normA x).2]) ∧ Kd.V k60 60 w' w.heap.size (fun k => w.heap.size ≤ k) v (normA x).1 ∧ Below w.heap.size w w'
set_option maxRecDepth 100000 in
set_option maxHeartbeats 4000000 in
theorem normalTop_c (x : S27) (A : Option Addr) (c : Nat) (w : World) (hn : nodes x ≤ 1152921504606846976) (hr : k27.C w A x.f2.length x.f2) (hc : x.f2.length ≤ c) :
    Calls Try.prog 27 #[.agg #[.int .i64 x.f0, .int .i64 x.f1, .slice A x.f2.length c]] w (NormalPost x w) := by
  have HB := Aside0.mk (below_alloc (Below.refl w.heap.size w) (.cells #[.int .i64 x.f0, .int .i64 x.f1, .slice A x.f2.length c] 27))
  have x1 : (w.alloc (.cells #[.int .i64 x.f0, .int .i64 x.f1, .slice A x.f2.length c] 27)).heap[w.heap.size]? = some (.cells #[.int .i64 x.f0, .int .i64 x.f1, .slice A x.f2.length c] 27 (0, 0)) := heap_alloc_new _ _
  have X1 := Aside0.mk x1
  have HR := Aside0.mk hr
  have HCC := Aside0.mk hc
  have HV := Aside0.mk (valid_c x A c (w.alloc (.cells #[.int .i64 x.f0, .int .i64 x.f1, .slice A x.f2.length c] 27)) hn (Kd.C_below hr HB.out) hc)
  obtain ⟨vb, hvb⟩ : ∃ vb, vb = validB x := ⟨_, rfl⟩
  rw [← hvb] at HV
  have VB := Aside0.mk hvb
  clear hr hc hn x1 hvb
  go_enter Try.func27, Try.ntmps27
  go_wp2_with fail
  refine HV.out.mono ?_
  rintro e w2 ⟨rfl, hb⟩
  have HB2 := Aside0.mk (below_then HB.out HB.out.size hb)
  have X2 := Aside0.mk ((hb.block _ (blk_lt X1.out)).trans X1.out)
  have t0 : w2.cell? ⟨w.heap.size, 0, none⟩ = some (.int .i64 x.f0) := (blk_cell X2.out 0).trans rfl
  have t1 : w2.cell? ⟨w.heap.size, 1, none⟩ = some (.int .i64 x.f1) := (blk_cell X2.out 1).trans rfl
  have t2 : w2.cell? ⟨w.heap.size, 2, none⟩ = some (.slice A x.f2.length c) := (blk_cell X2.out 2).trans rfl
  clear hb
  cases vb with
  | false =>
    have HA := Aside0.mk (normA_of (x := x) (l := []) (er := 4) ⟨by simp [errN, ← VB.out], by simp, fun _ => rfl⟩)
    go_wp2
    go_ret2
    exact ⟨.slice none 0 0, by rw [HA.out]; rfl, by rw [HA.out]; exact Kd.V_nil _ _ _ _ _, HB2.out⟩
  | true =>
    obtain ⟨ex, hex, htx⟩ := valid_ex VB.out.symm
    have EX := Aside0.mk hex
    have TX := Aside0.mk htx
    have NX := Aside0.mk (normal_c ex (by omega) A c w2 (by rw [← hex]; exact Kd.C_below HR.out HB2.out) (by rw [← hex]; exact HCC.out))
    rw [← hex] at NX
    clear hex htx
    go_wp2_with fail
    refine NX.out.mono ?_
    rintro e w3 ⟨ra, rfl, hra, hba⟩
    have HB3 := Aside0.mk (below_then HB2.out HB2.out.size hba)
    have RA := Aside0.mk hra
    obtain ⟨oa, hoa⟩ : ∃ oa, oa = (polyOf ex).isSome := ⟨_, rfl⟩
    rw [← hoa]
    have OA := Aside0.mk hoa
    clear hra hba hoa t0 t1 t2 NX
    cases oa with
    | false =>
      have hn : polyS x = none := by
        rw [EX.out, polyS_of]
        cases h : polyOf ex with
        | none => rfl
        | some p => have := OA.out; rw [h] at this; cases this
      have HA := Aside0.mk (normA_of (x := x) (l := []) (er := 2) ⟨by simp [errN, ← VB.out, hn], by simp, fun _ => rfl⟩)
      clear hn
      go_wp2
      go_ret2
      exact ⟨.slice none 0 0, by rw [HA.out]; rfl, by rw [HA.out]; exact Kd.V_nil _ _ _ _ _, HB3.out⟩
    | true =>
      obtain ⟨p, hp⟩ : ∃ p, polyOf ex = some p := by
        cases h : polyOf ex with
        | none => have := OA.out; rw [h] at this; cases this
        | some p => exact ⟨p, rfl⟩
      obtain ⟨b, p', rfl, hpi, hpp⟩ := RA.out p hp
      have hnf := nf_poly ex p (by have := TX.out; omega) hp
      have LC := Aside0.mk (listed_c b p' w3 hpi (nf_perm hpp.symm hnf))
      have HP := Aside0.mk hp
      have HPP := Aside0.mk hpp
      have HNF := Aside0.mk hnf
      clear hp hpi hpp hnf
      go_wp2_with fail
      refine LC.out.mono ?_
      rintro e w4 ⟨v, l, rfl, hs, hpm, hv, hb⟩
      have HB4 := Aside0.mk (below_then HB3.out HB3.out.size hb)
      have HS := Aside0.mk hs
      have HM := Aside0.mk hpm
      have HVV := Aside0.mk hv
      clear hs hpm hv hb
      have HA := Aside0.mk (normA_of (x := x) (l := l) (er := 0) ⟨by unfold errN; rw [if_pos VB.out.symm, show (polyS x).isSome = true by rw [EX.out, polyS_of, HP.out]; rfl]; rfl, fun _ => ⟨p, by rw [EX.out, polyS_of]; exact HP.out, HS.out, HM.out.trans HPP.out, HNF.out⟩, fun h => absurd rfl h⟩)
      go_wp2
      go_ret2
      exact ⟨v, by rw [HA.out]; rfl, by rw [HA.out]; exact Kd.V_lower (Kd.V_mono HVV.out (fun k hk => Nat.le_trans HB3.out.size hk)) HB3.out.size, HB4.out⟩
noncomputable def ring_Normal.f (a0 : Int) (a1 : Int) (l2 : List S27) : Option (List S60 × Int) := if nodes ⟨a0, a1, l2⟩ ≤ 1152921504606846976 then some (normA ⟨a0, a1, l2⟩) else none
theorem ring_Normal.calls (a0 : Int) (a1 : Int) (A2 : Option Addr) (c2 : Nat) (l2 : List S27) (r1 : List S60) (r2 : Int) (w : World) (hr2 : Kd.C k27 w A2 l2.length l2) (hc2 : l2.length ≤ c2) (h : ring_Normal.f a0 a1 l2 = some (r1, r2)) :
    Calls Try.prog 27 #[.agg #[.int .i64 a0, .int .i64 a1, .slice A2 l2.length c2]] w fun e w' => ∃ v0_ : Value, e = .returned (.tuple #[v0_, .int .i64 r2]) ∧ Kd.V k60 60 w' w.heap.size (fun k_ => (w.heap.size ≤ k_)) v0_ r1 ∧ Below w.heap.size w w' := by
  unfold ring_Normal.f at h
  by_cases hn : nodes ⟨a0, a1, l2⟩ ≤ 1152921504606846976
  · rw [if_pos hn] at h
    injection h with h
    have := normalTop_c ⟨a0, a1, l2⟩ A2 c2 w hn hr2 hc2
    unfold NormalPost at this
    rw [h] at this
    exact this
  · rw [if_neg hn] at h; cases h
def ring_Valid.f (a0 : Int) (a1 : Int) (l2 : List S27) : Option Bool := if nodes ⟨a0, a1, l2⟩ ≤ 1152921504606846976 then some (validB ⟨a0, a1, l2⟩) else none
theorem ring_Valid.calls (a0 : Int) (a1 : Int) (A2 : Option Addr) (c2 : Nat) (l2 : List S27) (r : Bool) (w : World) (hr2 : Kd.C k27 w A2 l2.length l2) (hc2 : l2.length ≤ c2) (h : ring_Valid.f a0 a1 l2 = some r) :
    Calls Try.prog 29 #[.agg #[.int .i64 a0, .int .i64 a1, .slice A2 l2.length c2]] w fun e w' => e = .returned (.bool r) ∧ Below w.heap.size w w' := by
  unfold ring_Valid.f at h
  by_cases hn : nodes ⟨a0, a1, l2⟩ ≤ 1152921504606846976
  · rw [if_pos hn] at h
    injection h with h
    rw [← h]
    exact valid_c ⟨a0, a1, l2⟩ A2 c2 w hn hr2 hc2
  · rw [if_neg hn] at h; cases h
end Go.Proofs.Ythkclagcbjnckaa.Pa


namespace Go.Proofs.Ythkclagcbjnckaa.Pa
open Go.RowKit Go.Proofs.YthkclagcbjnckaaW.PrintWords Go.Proofs.YthkclagcbjnckaaW.PrintLast Go.Proofs.YthkclagcbjnckaaW.PrintMore
attribute [local go_sem] max2_int min2_int max_two min_two max_three min_three max_four min_four
set_option linter.unusedVariables false
set_option linter.unusedSimpArgs false
noncomputable def tenetlaw24_RingNormals.f (k : Nat) (a0_0 : Int) (a0_1 : Int) (l0_2 : List (S27)) : Option (Bool) := (tenetlaw24_big.f k a0_0 a0_1 l0_2).bind fun t607 => (if t607 = true then ((tenetlaw24_awake.f).bind fun t608 => (some t608)) else ((ring_Normal.f a0_0 a0_1 l0_2).bind fun bt609 => ((tenetref24_Normal.f k a0_0 a0_1 l0_2).bind fun bt613 => ((ring_Valid.f a0_0 a0_1 l0_2).bind fun t617 => ((tenetref24_Valid.f k a0_0 a0_1 l0_2).bind fun t618 => (if (t617 == t618) = true then (if bt609.2 = bt613.2 then ((tenetref24_EqMonos.f k bt609.1 bt613.1).bind fun t619 => (if t619 = true then ((tenetlaw24_awake.f).bind fun t620 => (some t620)) else (some false))) else (some false)) else (some false)))))))
def tenetlaw24_RingNormals.T5 : Bool × List (List Nat × List Nat) := (true, [([], []), ([0], [0]), ([], []), ([2, 1], [2]), ([1, 3], [1, 3]), ([4, 3], [4]), ([5], [5]), ([5], [5]), ([6, 7, 5], [5, 6, 7]), ([5, 8], [5, 8]), ([9, 5], [9]), ([10], [10]), ([10], [10]), ([11, 12, 10, 10], [10, 11, 12]), ([10, 13], [10, 13]), ([14, 13], [14]), ([15, 15], [15]), ([15, 16], [15, 16]), ([17, 16, 0, 1, 2, 3, 4, 5, 6, 7, 8, 9, 10, 11, 12, 13, 14, 15, 16, 17], [17])])
def tenetlaw24_RingNormals.B5 : List Nat := [0, 1, 0, 7, 15, 31, 63, 63, 255, 511, 1023, 2047, 2047, 8191, 16383, 32767, 65535, 131071, 262143]
theorem tenetlaw24_RingNormals.tab5 : rtab .any (opsOf Try.f7 5) = tenetlaw24_RingNormals.T5 := by kernel_rfl
theorem tenetlaw24_RingNormals.bits5 : waitsOk tenetlaw24_RingNormals.T5.2 tenetlaw24_RingNormals.B5 = true := by kernel_rfl
set_option maxHeartbeats 8000000 in
set_option maxRecDepth 100000 in
theorem tenetlaw24_RingNormals.calls (k : Nat) (a0_0 : Int) (a0_1 : Int) (A0_2 : Option Addr) (c0_2 : Nat) (l0_2 : List (S27)) (r : Bool) (w : World) (hr0_2 : Kd.C k27 w A0_2 l0_2.length l0_2) (hc0_2 : l0_2.length ≤ c0_2) (h : tenetlaw24_RingNormals.f k a0_0 a0_1 l0_2 = some r) :
  Calls Try.prog 7 #[.agg #[.int .i64 a0_0, .int .i64 a0_1, .slice A0_2 l0_2.length c0_2]] w fun e w' => e = .returned (.bool r) ∧ Below w.heap.size w w' := by
 have hu27 := Try.underlying27
 have HR0_2 := Aside0.mk hr0_2
 have HC0_2 := Aside0.mk hc0_2
 clear hr0_2 hc0_2
 have HB := Aside0.mk (Below.refl w.heap.size w)
 have H : ((tenetlaw24_big.f k a0_0 a0_1 l0_2).bind fun t607 => (if t607 = true then ((tenetlaw24_awake.f).bind fun t608 => (some t608)) else ((ring_Normal.f a0_0 a0_1 l0_2).bind fun bt609 => ((tenetref24_Normal.f k a0_0 a0_1 l0_2).bind fun bt613 => ((ring_Valid.f a0_0 a0_1 l0_2).bind fun t617 => ((tenetref24_Valid.f k a0_0 a0_1 l0_2).bind fun t618 => (if (t617 == t618) = true then (if bt609.2 = bt613.2 then ((tenetref24_EqMonos.f k bt609.1 bt613.1).bind fun t619 => (if t619 = true then ((tenetlaw24_awake.f).bind fun t620 => (some t620)) else (some false))) else (some false)) else (some false)))))))) = some r := h
 clear h
 replace H := Option.bind_eq_some_iff.mp H
 obtain ⟨t607, A20, H⟩ := H
 replace H : (if t607 = true then ((tenetlaw24_awake.f).bind fun t608 => (some t608)) else ((ring_Normal.f a0_0 a0_1 l0_2).bind fun bt609 => ((tenetref24_Normal.f k a0_0 a0_1 l0_2).bind fun bt613 => ((ring_Valid.f a0_0 a0_1 l0_2).bind fun t617 => ((tenetref24_Valid.f k a0_0 a0_1 l0_2).bind fun t618 => (if (t617 == t618) = true then (if bt609.2 = bt613.2 then ((tenetref24_EqMonos.f k bt609.1 bt613.1).bind fun t619 => (if t619 = true then ((tenetlaw24_awake.f).bind fun t620 => (some t620)) else (some false))) else (some false)) else (some false))))))) = some r := H
 have A2 := Aside0.mk A20
 clear A20
 by_cases c3 : t607 = true
 ·subst c3
  have H1 : ((tenetlaw24_awake.f).bind fun t608 => (some t608)) = some r := by rw [if_pos rfl] at H; exact H
  clear H
  have H := H1
  clear H1
  replace H := Option.bind_eq_some_iff.mp H
  obtain ⟨t608, A40, H⟩ := H
  replace H : (some t608) = some r := H
  have A4 := Aside0.mk A40
  clear A40
  obtain rfl := Option.some.inj H
  go_enter Try.func7, Try.ntmps7
  go_wp2_with (first | ((with_reducible refine gate_dst (N := 1) rfl ?_); refine box_event ?hg (N := 1) ?hd (cs := #[.int .i64 a0_0, .int .i64 a0_1, .slice A0_2 l0_2.length c0_2]) (t := 27) ?hr ?_; (case hd => rfl); (case hg => rfl); (case hr => first | (go_simp; done) | (go_simp; rfl)); intro gb606 hg w5 hbox hb; have n0_ := Aside0.mk (below_step (by repeat (first | (with_reducible first | exact HB.out | apply below_alloc | apply pw_below_drewN | apply below_drew1) | exact HB.out)) hb); have n1_ := Aside0.mk (hbox); have n2_ := Aside0.mk ((by rw [hg]; exact (below_size (by repeat (first | (with_reducible first | exact HB.out | apply below_alloc | apply pw_below_drewN | apply below_drew1) | exact HB.out))) : w.heap.size ≤ gb606)); have n3_ := Aside0.mk ((by rw [hg]; exact (below_size (by repeat (first | (with_reducible first | exact HB.out | apply below_alloc | apply pw_below_drewN | apply below_drew1) | exact HB.out))) : w.heap.size ≤ gb606)); clear HB; have HB := n0_; have BK606 := n1_; have GW606 := n2_; have GE606 := n3_; clear n0_ n1_ n2_ n3_; clear hb hbox hg; have hcz6_0 : w5.cell? ⟨gb606, 0, none⟩ = some (.int .i64 a0_0) := (blk_cell BK606.out 0).trans rfl; have hcz6_1 : w5.cell? ⟨gb606, 1, none⟩ = some (.int .i64 a0_1) := (blk_cell BK606.out 1).trans rfl; have hcz6_2 : w5.cell? ⟨gb606, 2, none⟩ = some (.slice A0_2 l0_2.length c0_2) := (blk_cell BK606.out 2).trans rfl; have hfz6_0 := blk_frozen BK606.out 0; have hfz6_1 := blk_frozen BK606.out 1; have hfz6_2 := blk_frozen BK606.out 2) | ((with_reducible refine gate_callee (f := 17) rfl ?_); refine goesL_ (some 8) rfl rfl Try.func17 (by kernel_rfl) rfl #[.agg #[.int .i64 a0_0, .int .i64 a0_1, .slice A0_2 l0_2.length c0_2]] rfl (by (try simp only [List.map_toArray, List.map_cons, List.map_nil]); first | done | rfl | (simp only [List.length_drop, List.length_take]; rfl)) ?_; (with_reducible refine (tenetlaw24_big.calls k a0_0 a0_1 _ _ l0_2 true _ ?side1 ?side2 A2.out).mono ?_); (case side1 => repeat (first | exact (Kd.C_below HR0_2.out HB.out) | (with_reducible refine Kd.C_alloc ?_ _) | (with_reducible refine Kd.C_drewN ?_ _) | (with_reducible refine Kd.C_drew ?_))); (case side2 => exact HC0_2.out); rintro e w7 ⟨rfl, hb⟩; refine ⟨_, rfl, ?_⟩; have n0_ := Aside0.mk (blk_below (g := gb606) (o := .cells #[.int .i64 a0_0, .int .i64 a0_1, .slice A0_2 l0_2.length c0_2] 27 (0, 0)) (by (with_reducible repeat (first | refine blk_drewN ?_ _ | refine blk_drew ?_ | refine blk_alloc ?_ _)); exact BK606.out) hb); have n1_ := Aside0.mk (below_step (by repeat (first | (with_reducible first | exact HB.out | apply below_alloc | apply pw_below_drewN | apply below_drew1 | refine below_set ?_ GE606.out) | exact HB.out)) hb); clear BK606; clear HB; have BK606 := n0_; have HB := n1_; clear n0_ n1_; (try clear hb); (try clear hb2); (try clear hk); (try clear hi)) | ((with_reducible refine gate_callee (f := 13) rfl ?_); refine goesL_ (some 9) rfl rfl Try.func13 (by kernel_rfl) rfl #[] rfl (by (try simp only [List.map_toArray, List.map_cons, List.map_nil]); first | done | rfl | (simp only [List.length_drop, List.length_take]; rfl)) ?_; (with_reducible refine (tenetlaw24_awake.calls  t608 _ A4.out).mono ?_); rintro e w8 ⟨rfl, hb⟩; refine ⟨_, rfl, ?_⟩; have n0_ := Aside0.mk (blk_below (g := gb606) (o := .cells #[.int .i64 a0_0, .int .i64 a0_1, .slice A0_2 l0_2.length c0_2] 27 (0, 0)) (by (with_reducible repeat (first | refine blk_drewN ?_ _ | refine blk_drew ?_ | refine blk_alloc ?_ _)); exact BK606.out) hb); have n1_ := Aside0.mk (below_step (by repeat (first | (with_reducible first | exact HB.out | apply below_alloc | apply pw_below_drewN | apply below_drew1 | refine below_set ?_ GE606.out) | exact HB.out)) hb); clear BK606; clear HB; have BK606 := n0_; have HB := n1_; clear n0_ n1_; (try clear hb); (try clear hb2); (try clear hk); (try clear hi)))
  go_ret
  exact ⟨by first | rfl | (simp [errW_none, errW_some] <;> rfl) | (simp [*, errW_none, errW_some] <;> rfl), by repeat (first | (with_reducible first | exact HB.out | apply below_alloc | apply pw_below_drewN | apply below_drew1 | refine below_set ?_ GE606.out) | exact HB.out)⟩
 ·replace c3 := Bool.eq_false_iff.mpr c3
  subst c3
  have H1 : ((ring_Normal.f a0_0 a0_1 l0_2).bind fun bt609 => ((tenetref24_Normal.f k a0_0 a0_1 l0_2).bind fun bt613 => ((ring_Valid.f a0_0 a0_1 l0_2).bind fun t617 => ((tenetref24_Valid.f k a0_0 a0_1 l0_2).bind fun t618 => (if (t617 == t618) = true then (if bt609.2 = bt613.2 then ((tenetref24_EqMonos.f k bt609.1 bt613.1).bind fun t619 => (if t619 = true then ((tenetlaw24_awake.f).bind fun t620 => (some t620)) else (some false))) else (some false)) else (some false)))))) = some r := by rw [if_neg (show ¬ (false = true) by decide)] at H; exact H
  clear H
  have H := H1
  clear H1
  replace H := Option.bind_eq_some_iff.mp H
  obtain ⟨⟨t609, t612⟩, A90, H⟩ := H
  replace H : ((tenetref24_Normal.f k a0_0 a0_1 l0_2).bind fun bt613 => ((ring_Valid.f a0_0 a0_1 l0_2).bind fun t617 => ((tenetref24_Valid.f k a0_0 a0_1 l0_2).bind fun t618 => (if (t617 == t618) = true then (if t612 = bt613.2 then ((tenetref24_EqMonos.f k t609 bt613.1).bind fun t619 => (if t619 = true then ((tenetlaw24_awake.f).bind fun t620 => (some t620)) else (some false))) else (some false)) else (some false))))) = some r := H
  have A9 := Aside0.mk A90
  clear A90
  replace H := Option.bind_eq_some_iff.mp H
  obtain ⟨⟨t613, t616⟩, A100, H⟩ := H
  replace H : ((ring_Valid.f a0_0 a0_1 l0_2).bind fun t617 => ((tenetref24_Valid.f k a0_0 a0_1 l0_2).bind fun t618 => (if (t617 == t618) = true then (if t612 = t616 then ((tenetref24_EqMonos.f k t609 t613).bind fun t619 => (if t619 = true then ((tenetlaw24_awake.f).bind fun t620 => (some t620)) else (some false))) else (some false)) else (some false)))) = some r := H
  have A10 := Aside0.mk A100
  clear A100
  replace H := Option.bind_eq_some_iff.mp H
  obtain ⟨t617, A110, H⟩ := H
  replace H : ((tenetref24_Valid.f k a0_0 a0_1 l0_2).bind fun t618 => (if (t617 == t618) = true then (if t612 = t616 then ((tenetref24_EqMonos.f k t609 t613).bind fun t619 => (if t619 = true then ((tenetlaw24_awake.f).bind fun t620 => (some t620)) else (some false))) else (some false)) else (some false))) = some r := H
  have A11 := Aside0.mk A110
  clear A110
  replace H := Option.bind_eq_some_iff.mp H
  obtain ⟨t618, A120, H⟩ := H
  replace H : (if (t617 == t618) = true then (if t612 = t616 then ((tenetref24_EqMonos.f k t609 t613).bind fun t619 => (if t619 = true then ((tenetlaw24_awake.f).bind fun t620 => (some t620)) else (some false))) else (some false)) else (some false)) = some r := H
  have A12 := Aside0.mk A120
  clear A120
  by_cases c13 : (t617 == t618) = true
  ·rw [if_pos c13] at H
   have c13b0 : (t617 == t618) = true := c13
   (try (have c13b1 : decide (t617 = t618) = true := by simpa using c13))
   (try (have c13b2 : (t617 == t618) = true := by simpa using c13))
   clear c13
   by_cases c14 : t612 = t616
   ·rw [if_pos c14] at H
    have c14b0 : (t612 == t616) = true := beq_iff_eq.mpr c14
    have c14b1 : (t612 != t616) = false := bne_eq_false_iff_eq.mpr c14
    clear c14
    replace H := Option.bind_eq_some_iff.mp H
    obtain ⟨t619, A150, H⟩ := H
    replace H : (if t619 = true then ((tenetlaw24_awake.f).bind fun t620 => (some t620)) else (some false)) = some r := H
    have A15 := Aside0.mk A150
    clear A150
    by_cases c16 : t619 = true
    ·subst c16
     have H1 : ((tenetlaw24_awake.f).bind fun t620 => (some t620)) = some r := by rw [if_pos rfl] at H; exact H
     clear H
     have H := H1
     clear H1
     replace H := Option.bind_eq_some_iff.mp H
     obtain ⟨t620, A170, H⟩ := H
     replace H : (some t620) = some r := H
     have A17 := Aside0.mk A170
     clear A170
     obtain rfl := Option.some.inj H
     go_enter Try.func7, Try.ntmps7
     try go_wp2_with (first | ((with_reducible refine gate_dst (N := 1) rfl ?_); refine box_event ?hg (N := 1) ?hd (cs := #[.int .i64 a0_0, .int .i64 a0_1, .slice A0_2 l0_2.length c0_2]) (t := 27) ?hr ?_; (case hd => rfl); (case hg => rfl); (case hr => first | (go_simp; done) | (go_simp; rfl)); intro gb606 hg w18 hbox hb; have n0_ := Aside0.mk (below_step (by repeat (first | (with_reducible first | exact HB.out | apply below_alloc | apply pw_below_drewN | apply below_drew1) | exact HB.out)) hb); have n1_ := Aside0.mk (hbox); have n2_ := Aside0.mk ((by rw [hg]; exact (below_size (by repeat (first | (with_reducible first | exact HB.out | apply below_alloc | apply pw_below_drewN | apply below_drew1) | exact HB.out))) : w.heap.size ≤ gb606)); have n3_ := Aside0.mk ((by rw [hg]; exact (below_size (by repeat (first | (with_reducible first | exact HB.out | apply below_alloc | apply pw_below_drewN | apply below_drew1) | exact HB.out))) : w.heap.size ≤ gb606)); clear HB; have HB := n0_; have BK606 := n1_; have GW606 := n2_; have GE606 := n3_; clear n0_ n1_ n2_ n3_; clear hb hbox hg; have hcz19_0 : w18.cell? ⟨gb606, 0, none⟩ = some (.int .i64 a0_0) := (blk_cell BK606.out 0).trans rfl; have hcz19_1 : w18.cell? ⟨gb606, 1, none⟩ = some (.int .i64 a0_1) := (blk_cell BK606.out 1).trans rfl; have hcz19_2 : w18.cell? ⟨gb606, 2, none⟩ = some (.slice A0_2 l0_2.length c0_2) := (blk_cell BK606.out 2).trans rfl; have hfz19_0 := blk_frozen BK606.out 0; have hfz19_1 := blk_frozen BK606.out 1; have hfz19_2 := blk_frozen BK606.out 2) | ((with_reducible refine gate_callee (f := 17) rfl ?_); refine goesL_ (some 8) rfl rfl Try.func17 (by kernel_rfl) rfl #[.agg #[.int .i64 a0_0, .int .i64 a0_1, .slice A0_2 l0_2.length c0_2]] rfl (by (try simp only [List.map_toArray, List.map_cons, List.map_nil]); first | done | rfl | (simp only [List.length_drop, List.length_take]; rfl)) ?_; (with_reducible refine (tenetlaw24_big.calls k a0_0 a0_1 _ _ l0_2 false _ ?side1 ?side2 A2.out).mono ?_); (case side1 => repeat (first | exact (Kd.C_below HR0_2.out HB.out) | (with_reducible refine Kd.C_alloc ?_ _) | (with_reducible refine Kd.C_drewN ?_ _) | (with_reducible refine Kd.C_drew ?_))); (case side2 => exact HC0_2.out); rintro e w20 ⟨rfl, hb⟩; refine ⟨_, rfl, ?_⟩; have n0_ := Aside0.mk (blk_below (g := gb606) (o := .cells #[.int .i64 a0_0, .int .i64 a0_1, .slice A0_2 l0_2.length c0_2] 27 (0, 0)) (by (with_reducible repeat (first | refine blk_drewN ?_ _ | refine blk_drew ?_ | refine blk_alloc ?_ _)); exact BK606.out) hb); have n1_ := Aside0.mk (below_step (by repeat (first | (with_reducible first | exact HB.out | apply below_alloc | apply pw_below_drewN | apply below_drew1 | refine below_set ?_ GE606.out) | exact HB.out)) hb); clear BK606; clear HB; have BK606 := n0_; have HB := n1_; clear n0_ n1_; (try clear hb); (try clear hb2); (try clear hk); (try clear hi); have hcz21_0 : w20.cell? ⟨gb606, 0, none⟩ = some (.int .i64 a0_0) := (blk_cell BK606.out 0).trans rfl; have hcz21_1 : w20.cell? ⟨gb606, 1, none⟩ = some (.int .i64 a0_1) := (blk_cell BK606.out 1).trans rfl; have hcz21_2 : w20.cell? ⟨gb606, 2, none⟩ = some (.slice A0_2 l0_2.length c0_2) := (blk_cell BK606.out 2).trans rfl; have hfz21_0 := blk_frozen BK606.out 0; have hfz21_1 := blk_frozen BK606.out 1; have hfz21_2 := blk_frozen BK606.out 2) | ((with_reducible refine gate_callee (f := 27) rfl ?_); refine goesL_ (some 12) rfl rfl Try.func27 (by kernel_rfl) rfl #[.agg #[.int .i64 a0_0, .int .i64 a0_1, .slice A0_2 l0_2.length c0_2]] rfl (by (try simp only [List.map_toArray, List.map_cons, List.map_nil]); first | done | rfl | (simp only [List.length_drop, List.length_take]; rfl)) ?_; (with_reducible refine (ring_Normal.calls a0_0 a0_1 _ _ l0_2 t609 t612 _ ?side1 ?side2 A9.out).mono ?_); (case side1 => repeat (first | exact (Kd.C_below HR0_2.out HB.out) | (with_reducible refine Kd.C_alloc ?_ _) | (with_reducible refine Kd.C_drewN ?_ _) | (with_reducible refine Kd.C_drew ?_))); (case side2 => exact HC0_2.out); rintro e w22 ⟨v610, rfl, ho0, hb⟩; refine ⟨_, rfl, ?_⟩; have n0_ := Aside0.mk (Kd.V_lower (Kd.V_mono (ok' := fun k_ => k_ ≠ gb606) ho0 (fun k_ hk_ => (Kd.freshB (g := gb606) (o := .cells #[.int .i64 a0_0, .int .i64 a0_1, .slice A0_2 l0_2.length c0_2] 27 (0, 0)) (by (with_reducible repeat (first | refine blk_drewN ?_ _ | refine blk_drew ?_ | refine blk_alloc ?_ _)); exact BK606.out) k_ hk_))) (below_size (by repeat (first | (with_reducible first | exact HB.out | apply below_alloc | apply pw_below_drewN | apply below_drew1 | refine below_set ?_ GE606.out) | exact HB.out)))); have n1_ := Aside0.mk (blk_below (g := gb606) (o := .cells #[.int .i64 a0_0, .int .i64 a0_1, .slice A0_2 l0_2.length c0_2] 27 (0, 0)) (by (with_reducible repeat (first | refine blk_drewN ?_ _ | refine blk_drew ?_ | refine blk_alloc ?_ _)); exact BK606.out) hb); have n2_ := Aside0.mk (below_step (by repeat (first | (with_reducible first | exact HB.out | apply below_alloc | apply pw_below_drewN | apply below_drew1 | refine below_set ?_ GE606.out) | exact HB.out)) hb); clear BK606; clear HB; have HO611 := n0_; have BK606 := n1_; have HB := n2_; clear n0_ n1_ n2_; (try clear hb); (try clear hb2); (try clear hk); (try clear hi); (try clear ho0); have hcz23_0 : w22.cell? ⟨gb606, 0, none⟩ = some (.int .i64 a0_0) := (blk_cell BK606.out 0).trans rfl; have hcz23_1 : w22.cell? ⟨gb606, 1, none⟩ = some (.int .i64 a0_1) := (blk_cell BK606.out 1).trans rfl; have hcz23_2 : w22.cell? ⟨gb606, 2, none⟩ = some (.slice A0_2 l0_2.length c0_2) := (blk_cell BK606.out 2).trans rfl; have hfz23_0 := blk_frozen BK606.out 0; have hfz23_1 := blk_frozen BK606.out 1; have hfz23_2 := blk_frozen BK606.out 2) | ((with_reducible refine gate_callee (f := 28) rfl ?_); refine goesL_ (some 17) rfl rfl Try.func28 (by kernel_rfl) rfl #[.agg #[.int .i64 a0_0, .int .i64 a0_1, .slice A0_2 l0_2.length c0_2]] rfl (by (try simp only [List.map_toArray, List.map_cons, List.map_nil]); first | done | rfl | (simp only [List.length_drop, List.length_take]; rfl)) ?_; (with_reducible refine (tenetref24_Normal.calls k a0_0 a0_1 _ _ l0_2 t613 t616 _ ?side1 ?side2 A10.out).mono ?_); (case side1 => repeat (first | exact (Kd.C_below HR0_2.out HB.out) | (with_reducible refine Kd.C_alloc ?_ _) | (with_reducible refine Kd.C_drewN ?_ _) | (with_reducible refine Kd.C_drew ?_))); (case side2 => exact HC0_2.out); rintro e w24 ⟨v614, rfl, ho0, hb⟩; refine ⟨_, rfl, ?_⟩; have n0_ := Aside0.mk (Kd.V_elder' (by (with_reducible repeat (first | apply Kd.V_alloc | apply Kd.V_drewN | apply Kd.V_drew)); exact HO611.out) (Kd.S_base ho0) hb); have n1_ := Aside0.mk (Kd.S_lower ho0 (below_size (by repeat (first | (with_reducible first | exact HB.out | apply below_alloc | apply pw_below_drewN | apply below_drew1 | refine below_set ?_ GE606.out) | exact HB.out)))); have n2_ := Aside0.mk (blk_below (g := gb606) (o := .cells #[.int .i64 a0_0, .int .i64 a0_1, .slice A0_2 l0_2.length c0_2] 27 (0, 0)) (by (with_reducible repeat (first | refine blk_drewN ?_ _ | refine blk_drew ?_ | refine blk_alloc ?_ _)); exact BK606.out) hb); have n3_ := Aside0.mk (below_step (by repeat (first | (with_reducible first | exact HB.out | apply below_alloc | apply pw_below_drewN | apply below_drew1 | refine below_set ?_ GE606.out) | exact HB.out)) hb); clear HO611; clear BK606; clear HB; have HO611 := n0_; have HO615 := n1_; have BK606 := n2_; have HB := n3_; clear n0_ n1_ n2_ n3_; (try clear hb); (try clear hb2); (try clear hk); (try clear hi); (try clear ho0)))
     have n0_ := Aside0.mk (Kd.V_drew HO611.out)
     have n1_ := Aside0.mk (Kd.S_drew HO615.out)
     have n2_ := Aside0.mk (blk_drew BK606.out)
     have n3_ := Aside0.mk (below_drew1 HB.out)
     clear HO611
     clear HO615
     clear BK606
     clear HB
     have HO611 := n0_
     have HO615 := n1_
     have BK606 := n2_
     have HB := n3_
     clear n0_ n1_ n2_ n3_
     refine start_ (n := 19) (S := fun w' => w'.cell? ⟨gb606, 0, none⟩ = some (.int .i64 a0_0) ∧ w'.cell? ⟨gb606, 1, none⟩ = some (.int .i64 a0_1) ∧ w'.cell? ⟨gb606, 2, none⟩ = some (.slice A0_2 l0_2.length c0_2)) (ds := []) #[false, false, false, false, false, false, false, false, false, false, false, false, false, false, false, false, false, false, false] (by kernel_rfl) rfl rfl ⟨(blk_cell BK606.out 0).trans rfl, (blk_cell BK606.out 1).trans rfl, (blk_cell BK606.out 2).trans rfl⟩ (fun hHeld => ?_); refine with_tabW tenetlaw24_RingNormals.tab5 tenetlaw24_RingNormals.bits5 (fun HT_ HW_ => ?_)
     generalize w24.drew = w25 at HO611 HO615 BK606 HB hHeld ⊢
     refine take_ (i := 0) (N := some 20) (v := ?_) (a' := ?_) #[true, false, false, false, false, false, false, false, false, false, false, false, false, false, false, false, false, false, false] rfl rfl (take_ofW HT_.out HW_.out (by kernel_rfl)) (fun _ _ _ h => h) (Or.inl ⟨by rfl, ?_⟩) hHeld ?_ ?_
     rotate_left
     ·rintro w' ⟨s0, s1, s2⟩
      go_simp
      with_reducible rfl
     rotate_left
     ·simp only [Act.put, List.setIfInBounds_toArray, List.set_cons_zero, List.set_cons_succ, i64_w, i32_w]
      rfl
     refine take_ (i := 2) (N := some 22) (v := ?_) (a' := ?_) #[true, false, true, false, false, false, false, false, false, false, false, false, false, false, false, false, false, false, false] rfl rfl (take_ofW HT_.out HW_.out (by kernel_rfl)) (fun _ _ _ h => h) (Or.inl ⟨by rfl, ?_⟩) hHeld ?_ ?_
     rotate_left
     ·rintro w' ⟨s0, s1, s2⟩
      go_simp
      with_reducible rfl
     rotate_left
     ·simp only [Act.put, List.setIfInBounds_toArray, List.set_cons_zero, List.set_cons_succ, i64_w, i32_w]
      rfl
     refine one_ (i := 1) (N := some 21) #[true, true, true, false, false, false, false, false, false, false, false, false, false, false, false, false, false, false, false] rfl rfl (one_of HT_.out (by kernel_rfl)) (by decide) (fun K hK => ?_)
     refine goes_ Try.func29 (by kernel_rfl) rfl #[.agg #[.int .i64 a0_0, .int .i64 a0_1, .slice A0_2 l0_2.length c0_2]] (by rfl) rfl rfl (by (try simp only [List.map_toArray, List.map_cons, List.map_nil]); first | done | rfl | (simp only [List.length_drop, List.length_take]; rfl)) ?_
     with_reducible refine (ring_Valid.calls a0_0 a0_1 _ _ l0_2 t617 _ ?side1 ?side2 A11.out).mono ?_
     (case side1 => repeat (first | exact (Kd.C_below HR0_2.out HB.out) | (with_reducible refine Kd.C_alloc ?_ _) | (with_reducible refine Kd.C_drewN ?_ _) | (with_reducible refine Kd.C_drew ?_)))
     (case side2 => exact HC0_2.out)
     rintro e w26 ⟨rfl, hb⟩
     refine ⟨_, rfl, ?_⟩
     have n0_ := Aside0.mk (Kd.V_below (by (with_reducible repeat (first | apply Kd.V_alloc | apply Kd.V_drewN | apply Kd.V_drew)); exact HO611.out) hb)
     have n1_ := Aside0.mk (Kd.S_below (by (with_reducible repeat (first | apply Kd.S_alloc | apply Kd.S_drewN | apply Kd.S_drew)); exact HO615.out) hb)
     have n2_ := Aside0.mk (blk_below (g := gb606) (o := .cells #[.int .i64 a0_0, .int .i64 a0_1, .slice A0_2 l0_2.length c0_2] 27 (0, 0)) (by (with_reducible repeat (first | refine blk_drewN ?_ _ | refine blk_drew ?_ | refine blk_alloc ?_ _)); exact BK606.out) hb)
     have n3_ := Aside0.mk (below_step (by repeat (first | (with_reducible first | exact HB.out | apply below_alloc | apply pw_below_drewN | apply below_drew1 | refine below_set ?_ GE606.out) | exact HB.out)) hb)
     clear HO611
     clear HO615
     clear BK606
     clear HB
     have HO611 := n0_
     have HO615 := n1_
     have BK606 := n2_
     have HB := n3_
     clear n0_ n1_ n2_ n3_
     (try clear hb)
     (try clear hb2)
     (try clear hk)
     (try clear hi)
     refine hK.out _ _ ⟨(blk_cell BK606.out 0).trans rfl, (blk_cell BK606.out 1).trans rfl, (blk_cell BK606.out 2).trans rfl⟩ (fun hHeld => ?_)
     clear hK K
     refine norm_ (a' := ?_) ?_ ?_
     rotate_left
     ·show Act.put _ (some 21) _ = _
      simp only [Act.put, List.setIfInBounds_toArray, List.set_cons_zero, List.set_cons_succ, i64_w, i32_w]
      rfl
     refine one_ (i := 3) (N := some 23) #[true, true, true, true, false, false, false, false, false, false, false, false, false, false, false, false, false, false, false] rfl rfl (one_of HT_.out (by kernel_rfl)) (by decide) (fun K hK => ?_)
     refine goes_ Try.func30 (by kernel_rfl) rfl #[.agg #[.int .i64 a0_0, .int .i64 a0_1, .slice A0_2 l0_2.length c0_2]] (by rfl) rfl rfl (by (try simp only [List.map_toArray, List.map_cons, List.map_nil]); first | done | rfl | (simp only [List.length_drop, List.length_take]; rfl)) ?_
     with_reducible refine (tenetref24_Valid.calls k a0_0 a0_1 _ _ l0_2 t618 _ ?side1 ?side2 A12.out).mono ?_
     (case side1 => repeat (first | exact (Kd.C_below HR0_2.out HB.out) | (with_reducible refine Kd.C_alloc ?_ _) | (with_reducible refine Kd.C_drewN ?_ _) | (with_reducible refine Kd.C_drew ?_)))
     (case side2 => exact HC0_2.out)
     rintro e w27 ⟨rfl, hb⟩
     refine ⟨_, rfl, ?_⟩
     have n0_ := Aside0.mk (Kd.V_below (by (with_reducible repeat (first | apply Kd.V_alloc | apply Kd.V_drewN | apply Kd.V_drew)); exact HO611.out) hb)
     have n1_ := Aside0.mk (Kd.S_below (by (with_reducible repeat (first | apply Kd.S_alloc | apply Kd.S_drewN | apply Kd.S_drew)); exact HO615.out) hb)
     have n2_ := Aside0.mk (blk_below (g := gb606) (o := .cells #[.int .i64 a0_0, .int .i64 a0_1, .slice A0_2 l0_2.length c0_2] 27 (0, 0)) (by (with_reducible repeat (first | refine blk_drewN ?_ _ | refine blk_drew ?_ | refine blk_alloc ?_ _)); exact BK606.out) hb)
     have n3_ := Aside0.mk (below_step (by repeat (first | (with_reducible first | exact HB.out | apply below_alloc | apply pw_below_drewN | apply below_drew1 | refine below_set ?_ GE606.out) | exact HB.out)) hb)
     clear HO611
     clear HO615
     clear BK606
     clear HB
     have HO611 := n0_
     have HO615 := n1_
     have BK606 := n2_
     have HB := n3_
     clear n0_ n1_ n2_ n3_
     (try clear hb)
     (try clear hb2)
     (try clear hk)
     (try clear hi)
     obtain ⟨Ao28, co28, eo28⟩ := Kd.V_slice HO611.out
     (first | subst eo28 | (injection eo28 with f1_ f2_ f3_; have f4_ := f1_.symm; have f5_ := f3_.symm; clear f1_ f2_ f3_; subst f4_; subst f5_))
     obtain ⟨Ao29, co29, eo29⟩ := Kd.S_slice HO615.out
     (first | subst eo29 | (injection eo29 with f1_ f2_ f3_; have f4_ := f1_.symm; have f5_ := f3_.symm; clear f1_ f2_ f3_; subst f4_; subst f5_))
     refine hK.out _ _ ⟨(blk_cell BK606.out 0).trans rfl, (blk_cell BK606.out 1).trans rfl, (blk_cell BK606.out 2).trans rfl⟩ (fun hHeld => ?_)
     clear hK K
     refine norm_ (a' := ?_) ?_ ?_
     rotate_left
     ·show Act.put _ (some 23) _ = _
      simp only [Act.put, List.setIfInBounds_toArray, List.set_cons_zero, List.set_cons_succ, i64_w, i32_w]
      rfl
     refine pure_ (i := 4) (N := some 24) (v := ?_) (a' := ?_) #[true, true, true, true, true, false, false, false, false, false, false, false, false, false, false, false, false, false, false] rfl rfl (any_of HT_.out (by kernel_rfl)) (fun _ _ _ h => h) (Or.inl ⟨by rfl, ?_⟩) ?_ ?_
     rotate_left
     ·intro w'
      go_simp
      with_reducible rfl
     rotate_left
     ·simp only [Act.put, List.setIfInBounds_toArray, List.set_cons_zero, List.set_cons_succ, i64_w, i32_w]
      rfl
     refine pure_ (i := 5) (N := some 25) (v := ?_) (a' := ?_) #[true, true, true, true, true, true, false, false, false, false, false, false, false, false, false, false, false, false, false] rfl rfl (any_of HT_.out (by kernel_rfl)) (fun _ _ _ h => h) (Or.inl ⟨by rfl, ?_⟩) ?_ ?_
     rotate_left
     ·intro w'
      go_simp
      with_reducible rfl
     rotate_left
     ·simp only [Act.put, List.setIfInBounds_toArray, List.set_cons_zero, List.set_cons_succ, i64_w, i32_w]
      rfl
     refine pure_ (i := 6) (N := some 26) (v := ?_) (a' := ?_) #[true, true, true, true, true, true, true, false, false, false, false, false, false, false, false, false, false, false, false] rfl rfl (any_of HT_.out (by kernel_rfl)) (fun _ _ _ h => h) (Or.inl ⟨by rfl, ?_⟩) ?_ ?_
     rotate_left
     ·intro w'
      go_simp
      with_reducible rfl
     rotate_left
     ·simp only [Act.put, List.setIfInBounds_toArray, List.set_cons_zero, List.set_cons_succ, i64_w, i32_w]
      rfl
     refine pure_ (i := 7) (N := some 27) (v := ?_) (a' := ?_) #[true, true, true, true, true, true, true, true, false, false, false, false, false, false, false, false, false, false, false] rfl rfl (any_of HT_.out (by kernel_rfl)) (fun _ _ _ h => h) (Or.inl ⟨by rfl, ?_⟩) ?_ ?_
     rotate_left
     ·intro w'
      go_simp
      with_reducible rfl
     rotate_left
     ·simp only [Act.put, List.setIfInBounds_toArray, List.set_cons_zero, List.set_cons_succ, i64_w, i32_w]
      rfl
     refine pure_ (i := 8) (N := some 28) (v := ?_) (a' := ?_) #[true, true, true, true, true, true, true, true, true, false, false, false, false, false, false, false, false, false, false] rfl rfl (any_of HT_.out (by kernel_rfl)) (fun _ _ _ h => h) (Or.inl ⟨by rfl, ?_⟩) ?_ ?_
     rotate_left
     ·intro w'
      go_simp
      with_reducible rfl
     rotate_left
     ·simp only [Act.put, List.setIfInBounds_toArray, List.set_cons_zero, List.set_cons_succ, i64_w, i32_w]
      rfl
     refine pure_ (i := 9) (N := some 29) (v := ?_) (a' := ?_) #[true, true, true, true, true, true, true, true, true, true, false, false, false, false, false, false, false, false, false] rfl rfl (any_of HT_.out (by kernel_rfl)) (fun _ _ _ h => h) (Or.inl ⟨by rfl, ?_⟩) ?_ ?_
     rotate_left
     ·intro w'
      go_simp
      with_reducible rfl
     rotate_left
     ·simp only [Act.put, List.setIfInBounds_toArray, List.set_cons_zero, List.set_cons_succ, i64_w, i32_w]
      rfl
     refine pure_ (i := 10) (N := some 30) (v := ?_) (a' := ?_) #[true, true, true, true, true, true, true, true, true, true, true, false, false, false, false, false, false, false, false] rfl rfl (any_of HT_.out (by kernel_rfl)) (fun _ _ _ h => h) (Or.inl ⟨by rfl, ?_⟩) ?_ ?_
     rotate_left
     ·intro w'
      go_simp
      with_reducible rfl
     rotate_left
     ·simp only [Act.put, List.setIfInBounds_toArray, List.set_cons_zero, List.set_cons_succ, i64_w, i32_w]
      rfl
     refine pure_ (i := 11) (N := some 31) (v := ?_) (a' := ?_) #[true, true, true, true, true, true, true, true, true, true, true, true, false, false, false, false, false, false, false] rfl rfl (any_of HT_.out (by kernel_rfl)) (fun _ _ _ h => h) (Or.inl ⟨by rfl, ?_⟩) ?_ ?_
     rotate_left
     ·intro w'
      go_simp
      with_reducible rfl
     rotate_left
     ·simp only [Act.put, List.setIfInBounds_toArray, List.set_cons_zero, List.set_cons_succ, i64_w, i32_w]
      rfl
     refine pure_ (i := 12) (N := some 32) (v := ?_) (a' := ?_) #[true, true, true, true, true, true, true, true, true, true, true, true, true, false, false, false, false, false, false] rfl rfl (any_of HT_.out (by kernel_rfl)) (fun _ _ _ h => h) (Or.inl ⟨by rfl, ?_⟩) ?_ ?_
     rotate_left
     ·intro w'
      go_simp
      with_reducible rfl
     rotate_left
     ·simp only [Act.put, List.setIfInBounds_toArray, List.set_cons_zero, List.set_cons_succ, i64_w, i32_w]
      rfl
     refine one_ (i := 13) (N := some 33) #[true, true, true, true, true, true, true, true, true, true, true, true, true, true, false, false, false, false, false] rfl rfl (one_of HT_.out (by kernel_rfl)) (by decide) (fun K hK => ?_)
     refine goes_ Try.func31 (by kernel_rfl) rfl #[.slice Ao28 t609.length co28, .slice Ao29 t613.length co29] (by rfl) rfl rfl (by (try simp only [List.map_toArray, List.map_cons, List.map_nil]); first | done | rfl | (simp only [List.length_drop, List.length_take]; rfl)) ?_
     with_reducible refine (tenetref24_EqMonos.calls k _ _ t609 _ _ t613 true _ ?side1 ?side2 ?side3 ?side4 A15.out).mono ?_
     (case side1 => repeat (first | exact (Kd.V_reads' HO611.out).2.2 | (with_reducible refine Kd.C_alloc ?_ _) | (with_reducible refine Kd.C_drewN ?_ _) | (with_reducible refine Kd.C_drew ?_)))
     (case side2 => exact (Kd.V_reads' HO611.out).2.1)
     (case side3 => repeat (first | exact (Kd.S_reads' HO615.out).2.2 | (with_reducible refine Kd.C_alloc ?_ _) | (with_reducible refine Kd.C_drewN ?_ _) | (with_reducible refine Kd.C_drew ?_)))
     (case side4 => exact (Kd.S_reads' HO615.out).2.1)
     rintro e w' ⟨rfl, ⟨nd, rfl⟩⟩
     refine ⟨_, rfl, ?_⟩
     refine hK.out _ _ ⟨(blk_cell BK606.out 0).trans rfl, (blk_cell BK606.out 1).trans rfl, (blk_cell BK606.out 2).trans rfl⟩ (fun hHeld => ?_)
     clear hK K
     refine norm_ (a' := ?_) ?_ ?_
     rotate_left
     ·show Act.put _ (some 33) _ = _
      simp only [Act.put, List.setIfInBounds_toArray, List.set_cons_zero, List.set_cons_succ, i64_w, i32_w]
      rfl
     refine pure_ (i := 14) (N := some 34) (v := ?_) (a' := ?_) #[true, true, true, true, true, true, true, true, true, true, true, true, true, true, true, false, false, false, false] rfl rfl (any_of HT_.out (by kernel_rfl)) (fun _ _ _ h => h) (Or.inl ⟨by rfl, ?_⟩) ?_ ?_
     rotate_left
     ·intro w'
      go_simp
      with_reducible rfl
     rotate_left
     ·simp only [Act.put, List.setIfInBounds_toArray, List.set_cons_zero, List.set_cons_succ, i64_w, i32_w]
      rfl
     refine pure_ (i := 15) (N := some 35) (v := ?_) (a' := ?_) #[true, true, true, true, true, true, true, true, true, true, true, true, true, true, true, true, false, false, false] rfl rfl (any_of HT_.out (by kernel_rfl)) (fun _ _ _ h => h) (Or.inl ⟨by rfl, ?_⟩) ?_ ?_
     rotate_left
     ·intro w'
      go_simp
      with_reducible rfl
     rotate_left
     ·simp only [Act.put, List.setIfInBounds_toArray, List.set_cons_zero, List.set_cons_succ, i64_w, i32_w]
      rfl
     refine one_ (i := 16) (N := some 36) #[true, true, true, true, true, true, true, true, true, true, true, true, true, true, true, true, true, false, false] rfl rfl (one_of HT_.out (by kernel_rfl)) (by decide) (fun K hK => ?_)
     refine goes_ Try.func13 (by kernel_rfl) rfl #[] (by rfl) rfl rfl (by (try simp only [List.map_toArray, List.map_cons, List.map_nil]); first | done | rfl | (simp only [List.length_drop, List.length_take]; rfl)) ?_
     with_reducible refine (tenetlaw24_awake.calls  t620 _ A17.out).mono ?_
     rintro e w30 ⟨rfl, hb⟩
     refine ⟨_, rfl, ?_⟩
     have n0_ := Aside0.mk (Kd.V_below (by (with_reducible repeat (first | apply Kd.V_alloc | apply Kd.V_drewN | apply Kd.V_drew)); exact HO611.out) hb)
     have n1_ := Aside0.mk (Kd.S_below (by (with_reducible repeat (first | apply Kd.S_alloc | apply Kd.S_drewN | apply Kd.S_drew)); exact HO615.out) hb)
     have n2_ := Aside0.mk (blk_below (g := gb606) (o := .cells #[.int .i64 a0_0, .int .i64 a0_1, .slice A0_2 l0_2.length c0_2] 27 (0, 0)) (by (with_reducible repeat (first | refine blk_drewN ?_ _ | refine blk_drew ?_ | refine blk_alloc ?_ _)); exact BK606.out) hb)
     have n3_ := Aside0.mk (below_step (by repeat (first | (with_reducible first | exact HB.out | apply below_alloc | apply pw_below_drewN | apply below_drew1 | refine below_set ?_ GE606.out) | exact HB.out)) hb)
     clear HO611
     clear HO615
     clear BK606
     clear HB
     have HO611 := n0_
     have HO615 := n1_
     have BK606 := n2_
     have HB := n3_
     clear n0_ n1_ n2_ n3_
     (try clear hb)
     (try clear hb2)
     (try clear hk)
     (try clear hi)
     refine hK.out _ _ ⟨(blk_cell BK606.out 0).trans rfl, (blk_cell BK606.out 1).trans rfl, (blk_cell BK606.out 2).trans rfl⟩ (fun hHeld => ?_)
     clear hK K
     refine norm_ (a' := ?_) ?_ ?_
     rotate_left
     ·show Act.put _ (some 36) _ = _
      simp only [Act.put, List.setIfInBounds_toArray, List.set_cons_zero, List.set_cons_succ, i64_w, i32_w]
      rfl
     refine pure_ (i := 17) (N := some 37) (v := ?_) (a' := ?_) #[true, true, true, true, true, true, true, true, true, true, true, true, true, true, true, true, true, true, false] rfl rfl (any_of HT_.out (by kernel_rfl)) (fun _ _ _ h => h) (Or.inl ⟨by rfl, ?_⟩) ?_ ?_
     rotate_left
     ·intro w'
      go_simp
      with_reducible rfl
     rotate_left
     ·simp only [Act.put, List.setIfInBounds_toArray, List.set_cons_zero, List.set_cons_succ, i64_w, i32_w]
      rfl
     refine pure_ (i := 18) (N := some 2) (v := ?_) (a' := ?_) #[true, true, true, true, true, true, true, true, true, true, true, true, true, true, true, true, true, true, true] rfl rfl (any_of HT_.out (by kernel_rfl)) (fun _ _ _ h => h) (Or.inl ⟨by rfl, ?_⟩) ?_ ?_
     rotate_left
     ·intro w'
      go_simp
      with_reducible rfl
     rotate_left
     ·simp only [Act.put, List.setIfInBounds_toArray, List.set_cons_zero, List.set_cons_succ, i64_w, i32_w]
      rfl
     refine done_ (done_of HT_.out (by kernel_rfl)) ?_
     try go_wp2
     go_ret
     exact ⟨by first | rfl | (simp [errW_none, errW_some] <;> rfl) | (simp [*, errW_none, errW_some] <;> rfl), by repeat (first | (with_reducible first | exact HB.out | apply below_alloc | apply pw_below_drewN | apply below_drew1 | refine below_set ?_ GE606.out) | exact HB.out)⟩
    ·replace c16 := Bool.eq_false_iff.mpr c16
     subst c16
     have H1 : (some false) = some r := by rw [if_neg (show ¬ (false = true) by decide)] at H; exact H
     clear H
     have H := H1
     clear H1
     obtain rfl := Option.some.inj H
     go_enter Try.func7, Try.ntmps7
     try go_wp2_with (first | ((with_reducible refine gate_dst (N := 1) rfl ?_); refine box_event ?hg (N := 1) ?hd (cs := #[.int .i64 a0_0, .int .i64 a0_1, .slice A0_2 l0_2.length c0_2]) (t := 27) ?hr ?_; (case hd => rfl); (case hg => rfl); (case hr => first | (go_simp; done) | (go_simp; rfl)); intro gb606 hg w31 hbox hb; have n0_ := Aside0.mk (below_step (by repeat (first | (with_reducible first | exact HB.out | apply below_alloc | apply pw_below_drewN | apply below_drew1) | exact HB.out)) hb); have n1_ := Aside0.mk (hbox); have n2_ := Aside0.mk ((by rw [hg]; exact (below_size (by repeat (first | (with_reducible first | exact HB.out | apply below_alloc | apply pw_below_drewN | apply below_drew1) | exact HB.out))) : w.heap.size ≤ gb606)); have n3_ := Aside0.mk ((by rw [hg]; exact (below_size (by repeat (first | (with_reducible first | exact HB.out | apply below_alloc | apply pw_below_drewN | apply below_drew1) | exact HB.out))) : w.heap.size ≤ gb606)); clear HB; have HB := n0_; have BK606 := n1_; have GW606 := n2_; have GE606 := n3_; clear n0_ n1_ n2_ n3_; clear hb hbox hg; have hcz32_0 : w31.cell? ⟨gb606, 0, none⟩ = some (.int .i64 a0_0) := (blk_cell BK606.out 0).trans rfl; have hcz32_1 : w31.cell? ⟨gb606, 1, none⟩ = some (.int .i64 a0_1) := (blk_cell BK606.out 1).trans rfl; have hcz32_2 : w31.cell? ⟨gb606, 2, none⟩ = some (.slice A0_2 l0_2.length c0_2) := (blk_cell BK606.out 2).trans rfl; have hfz32_0 := blk_frozen BK606.out 0; have hfz32_1 := blk_frozen BK606.out 1; have hfz32_2 := blk_frozen BK606.out 2) | ((with_reducible refine gate_callee (f := 17) rfl ?_); refine goesL_ (some 8) rfl rfl Try.func17 (by kernel_rfl) rfl #[.agg #[.int .i64 a0_0, .int .i64 a0_1, .slice A0_2 l0_2.length c0_2]] rfl (by (try simp only [List.map_toArray, List.map_cons, List.map_nil]); first | done | rfl | (simp only [List.length_drop, List.length_take]; rfl)) ?_; (with_reducible refine (tenetlaw24_big.calls k a0_0 a0_1 _ _ l0_2 false _ ?side1 ?side2 A2.out).mono ?_); (case side1 => repeat (first | exact (Kd.C_below HR0_2.out HB.out) | (with_reducible refine Kd.C_alloc ?_ _) | (with_reducible refine Kd.C_drewN ?_ _) | (with_reducible refine Kd.C_drew ?_))); (case side2 => exact HC0_2.out); rintro e w33 ⟨rfl, hb⟩; refine ⟨_, rfl, ?_⟩; have n0_ := Aside0.mk (blk_below (g := gb606) (o := .cells #[.int .i64 a0_0, .int .i64 a0_1, .slice A0_2 l0_2.length c0_2] 27 (0, 0)) (by (with_reducible repeat (first | refine blk_drewN ?_ _ | refine blk_drew ?_ | refine blk_alloc ?_ _)); exact BK606.out) hb); have n1_ := Aside0.mk (below_step (by repeat (first | (with_reducible first | exact HB.out | apply below_alloc | apply pw_below_drewN | apply below_drew1 | refine below_set ?_ GE606.out) | exact HB.out)) hb); clear BK606; clear HB; have BK606 := n0_; have HB := n1_; clear n0_ n1_; (try clear hb); (try clear hb2); (try clear hk); (try clear hi); have hcz34_0 : w33.cell? ⟨gb606, 0, none⟩ = some (.int .i64 a0_0) := (blk_cell BK606.out 0).trans rfl; have hcz34_1 : w33.cell? ⟨gb606, 1, none⟩ = some (.int .i64 a0_1) := (blk_cell BK606.out 1).trans rfl; have hcz34_2 : w33.cell? ⟨gb606, 2, none⟩ = some (.slice A0_2 l0_2.length c0_2) := (blk_cell BK606.out 2).trans rfl; have hfz34_0 := blk_frozen BK606.out 0; have hfz34_1 := blk_frozen BK606.out 1; have hfz34_2 := blk_frozen BK606.out 2) | ((with_reducible refine gate_callee (f := 27) rfl ?_); refine goesL_ (some 12) rfl rfl Try.func27 (by kernel_rfl) rfl #[.agg #[.int .i64 a0_0, .int .i64 a0_1, .slice A0_2 l0_2.length c0_2]] rfl (by (try simp only [List.map_toArray, List.map_cons, List.map_nil]); first | done | rfl | (simp only [List.length_drop, List.length_take]; rfl)) ?_; (with_reducible refine (ring_Normal.calls a0_0 a0_1 _ _ l0_2 t609 t612 _ ?side1 ?side2 A9.out).mono ?_); (case side1 => repeat (first | exact (Kd.C_below HR0_2.out HB.out) | (with_reducible refine Kd.C_alloc ?_ _) | (with_reducible refine Kd.C_drewN ?_ _) | (with_reducible refine Kd.C_drew ?_))); (case side2 => exact HC0_2.out); rintro e w35 ⟨v610, rfl, ho0, hb⟩; refine ⟨_, rfl, ?_⟩; have n0_ := Aside0.mk (Kd.V_lower (Kd.V_mono (ok' := fun k_ => k_ ≠ gb606) ho0 (fun k_ hk_ => (Kd.freshB (g := gb606) (o := .cells #[.int .i64 a0_0, .int .i64 a0_1, .slice A0_2 l0_2.length c0_2] 27 (0, 0)) (by (with_reducible repeat (first | refine blk_drewN ?_ _ | refine blk_drew ?_ | refine blk_alloc ?_ _)); exact BK606.out) k_ hk_))) (below_size (by repeat (first | (with_reducible first | exact HB.out | apply below_alloc | apply pw_below_drewN | apply below_drew1 | refine below_set ?_ GE606.out) | exact HB.out)))); have n1_ := Aside0.mk (blk_below (g := gb606) (o := .cells #[.int .i64 a0_0, .int .i64 a0_1, .slice A0_2 l0_2.length c0_2] 27 (0, 0)) (by (with_reducible repeat (first | refine blk_drewN ?_ _ | refine blk_drew ?_ | refine blk_alloc ?_ _)); exact BK606.out) hb); have n2_ := Aside0.mk (below_step (by repeat (first | (with_reducible first | exact HB.out | apply below_alloc | apply pw_below_drewN | apply below_drew1 | refine below_set ?_ GE606.out) | exact HB.out)) hb); clear BK606; clear HB; have HO611 := n0_; have BK606 := n1_; have HB := n2_; clear n0_ n1_ n2_; (try clear hb); (try clear hb2); (try clear hk); (try clear hi); (try clear ho0); have hcz36_0 : w35.cell? ⟨gb606, 0, none⟩ = some (.int .i64 a0_0) := (blk_cell BK606.out 0).trans rfl; have hcz36_1 : w35.cell? ⟨gb606, 1, none⟩ = some (.int .i64 a0_1) := (blk_cell BK606.out 1).trans rfl; have hcz36_2 : w35.cell? ⟨gb606, 2, none⟩ = some (.slice A0_2 l0_2.length c0_2) := (blk_cell BK606.out 2).trans rfl; have hfz36_0 := blk_frozen BK606.out 0; have hfz36_1 := blk_frozen BK606.out 1; have hfz36_2 := blk_frozen BK606.out 2) | ((with_reducible refine gate_callee (f := 28) rfl ?_); refine goesL_ (some 17) rfl rfl Try.func28 (by kernel_rfl) rfl #[.agg #[.int .i64 a0_0, .int .i64 a0_1, .slice A0_2 l0_2.length c0_2]] rfl (by (try simp only [List.map_toArray, List.map_cons, List.map_nil]); first | done | rfl | (simp only [List.length_drop, List.length_take]; rfl)) ?_; (with_reducible refine (tenetref24_Normal.calls k a0_0 a0_1 _ _ l0_2 t613 t616 _ ?side1 ?side2 A10.out).mono ?_); (case side1 => repeat (first | exact (Kd.C_below HR0_2.out HB.out) | (with_reducible refine Kd.C_alloc ?_ _) | (with_reducible refine Kd.C_drewN ?_ _) | (with_reducible refine Kd.C_drew ?_))); (case side2 => exact HC0_2.out); rintro e w37 ⟨v614, rfl, ho0, hb⟩; refine ⟨_, rfl, ?_⟩; have n0_ := Aside0.mk (Kd.V_elder' (by (with_reducible repeat (first | apply Kd.V_alloc | apply Kd.V_drewN | apply Kd.V_drew)); exact HO611.out) (Kd.S_base ho0) hb); have n1_ := Aside0.mk (Kd.S_lower ho0 (below_size (by repeat (first | (with_reducible first | exact HB.out | apply below_alloc | apply pw_below_drewN | apply below_drew1 | refine below_set ?_ GE606.out) | exact HB.out)))); have n2_ := Aside0.mk (blk_below (g := gb606) (o := .cells #[.int .i64 a0_0, .int .i64 a0_1, .slice A0_2 l0_2.length c0_2] 27 (0, 0)) (by (with_reducible repeat (first | refine blk_drewN ?_ _ | refine blk_drew ?_ | refine blk_alloc ?_ _)); exact BK606.out) hb); have n3_ := Aside0.mk (below_step (by repeat (first | (with_reducible first | exact HB.out | apply below_alloc | apply pw_below_drewN | apply below_drew1 | refine below_set ?_ GE606.out) | exact HB.out)) hb); clear HO611; clear BK606; clear HB; have HO611 := n0_; have HO615 := n1_; have BK606 := n2_; have HB := n3_; clear n0_ n1_ n2_ n3_; (try clear hb); (try clear hb2); (try clear hk); (try clear hi); (try clear ho0)))
     have n0_ := Aside0.mk (Kd.V_drew HO611.out)
     have n1_ := Aside0.mk (Kd.S_drew HO615.out)
     have n2_ := Aside0.mk (blk_drew BK606.out)
     have n3_ := Aside0.mk (below_drew1 HB.out)
     clear HO611
     clear HO615
     clear BK606
     clear HB
     have HO611 := n0_
     have HO615 := n1_
     have BK606 := n2_
     have HB := n3_
     clear n0_ n1_ n2_ n3_
     refine start_ (n := 19) (S := fun w' => w'.cell? ⟨gb606, 0, none⟩ = some (.int .i64 a0_0) ∧ w'.cell? ⟨gb606, 1, none⟩ = some (.int .i64 a0_1) ∧ w'.cell? ⟨gb606, 2, none⟩ = some (.slice A0_2 l0_2.length c0_2)) (ds := []) #[false, false, false, false, false, false, false, false, false, false, false, false, false, false, false, false, false, false, false] (by kernel_rfl) rfl rfl ⟨(blk_cell BK606.out 0).trans rfl, (blk_cell BK606.out 1).trans rfl, (blk_cell BK606.out 2).trans rfl⟩ (fun hHeld => ?_); refine with_tabW tenetlaw24_RingNormals.tab5 tenetlaw24_RingNormals.bits5 (fun HT_ HW_ => ?_)
     generalize w37.drew = w38 at HO611 HO615 BK606 HB hHeld ⊢
     refine take_ (i := 0) (N := some 20) (v := ?_) (a' := ?_) #[true, false, false, false, false, false, false, false, false, false, false, false, false, false, false, false, false, false, false] rfl rfl (take_ofW HT_.out HW_.out (by kernel_rfl)) (fun _ _ _ h => h) (Or.inl ⟨by rfl, ?_⟩) hHeld ?_ ?_
     rotate_left
     ·rintro w' ⟨s0, s1, s2⟩
      go_simp
      with_reducible rfl
     rotate_left
     ·simp only [Act.put, List.setIfInBounds_toArray, List.set_cons_zero, List.set_cons_succ, i64_w, i32_w]
      rfl
     refine take_ (i := 2) (N := some 22) (v := ?_) (a' := ?_) #[true, false, true, false, false, false, false, false, false, false, false, false, false, false, false, false, false, false, false] rfl rfl (take_ofW HT_.out HW_.out (by kernel_rfl)) (fun _ _ _ h => h) (Or.inl ⟨by rfl, ?_⟩) hHeld ?_ ?_
     rotate_left
     ·rintro w' ⟨s0, s1, s2⟩
      go_simp
      with_reducible rfl
     rotate_left
     ·simp only [Act.put, List.setIfInBounds_toArray, List.set_cons_zero, List.set_cons_succ, i64_w, i32_w]
      rfl
     refine one_ (i := 1) (N := some 21) #[true, true, true, false, false, false, false, false, false, false, false, false, false, false, false, false, false, false, false] rfl rfl (one_of HT_.out (by kernel_rfl)) (by decide) (fun K hK => ?_)
     refine goes_ Try.func29 (by kernel_rfl) rfl #[.agg #[.int .i64 a0_0, .int .i64 a0_1, .slice A0_2 l0_2.length c0_2]] (by rfl) rfl rfl (by (try simp only [List.map_toArray, List.map_cons, List.map_nil]); first | done | rfl | (simp only [List.length_drop, List.length_take]; rfl)) ?_
     with_reducible refine (ring_Valid.calls a0_0 a0_1 _ _ l0_2 t617 _ ?side1 ?side2 A11.out).mono ?_
     (case side1 => repeat (first | exact (Kd.C_below HR0_2.out HB.out) | (with_reducible refine Kd.C_alloc ?_ _) | (with_reducible refine Kd.C_drewN ?_ _) | (with_reducible refine Kd.C_drew ?_)))
     (case side2 => exact HC0_2.out)
     rintro e w39 ⟨rfl, hb⟩
     refine ⟨_, rfl, ?_⟩
     have n0_ := Aside0.mk (Kd.V_below (by (with_reducible repeat (first | apply Kd.V_alloc | apply Kd.V_drewN | apply Kd.V_drew)); exact HO611.out) hb)
     have n1_ := Aside0.mk (Kd.S_below (by (with_reducible repeat (first | apply Kd.S_alloc | apply Kd.S_drewN | apply Kd.S_drew)); exact HO615.out) hb)
     have n2_ := Aside0.mk (blk_below (g := gb606) (o := .cells #[.int .i64 a0_0, .int .i64 a0_1, .slice A0_2 l0_2.length c0_2] 27 (0, 0)) (by (with_reducible repeat (first | refine blk_drewN ?_ _ | refine blk_drew ?_ | refine blk_alloc ?_ _)); exact BK606.out) hb)
     have n3_ := Aside0.mk (below_step (by repeat (first | (with_reducible first | exact HB.out | apply below_alloc | apply pw_below_drewN | apply below_drew1 | refine below_set ?_ GE606.out) | exact HB.out)) hb)
     clear HO611
     clear HO615
     clear BK606
     clear HB
     have HO611 := n0_
     have HO615 := n1_
     have BK606 := n2_
     have HB := n3_
     clear n0_ n1_ n2_ n3_
     (try clear hb)
     (try clear hb2)
     (try clear hk)
     (try clear hi)
     refine hK.out _ _ ⟨(blk_cell BK606.out 0).trans rfl, (blk_cell BK606.out 1).trans rfl, (blk_cell BK606.out 2).trans rfl⟩ (fun hHeld => ?_)
     clear hK K
     refine norm_ (a' := ?_) ?_ ?_
     rotate_left
     ·show Act.put _ (some 21) _ = _
      simp only [Act.put, List.setIfInBounds_toArray, List.set_cons_zero, List.set_cons_succ, i64_w, i32_w]
      rfl
     refine one_ (i := 3) (N := some 23) #[true, true, true, true, false, false, false, false, false, false, false, false, false, false, false, false, false, false, false] rfl rfl (one_of HT_.out (by kernel_rfl)) (by decide) (fun K hK => ?_)
     refine goes_ Try.func30 (by kernel_rfl) rfl #[.agg #[.int .i64 a0_0, .int .i64 a0_1, .slice A0_2 l0_2.length c0_2]] (by rfl) rfl rfl (by (try simp only [List.map_toArray, List.map_cons, List.map_nil]); first | done | rfl | (simp only [List.length_drop, List.length_take]; rfl)) ?_
     with_reducible refine (tenetref24_Valid.calls k a0_0 a0_1 _ _ l0_2 t618 _ ?side1 ?side2 A12.out).mono ?_
     (case side1 => repeat (first | exact (Kd.C_below HR0_2.out HB.out) | (with_reducible refine Kd.C_alloc ?_ _) | (with_reducible refine Kd.C_drewN ?_ _) | (with_reducible refine Kd.C_drew ?_)))
     (case side2 => exact HC0_2.out)
     rintro e w40 ⟨rfl, hb⟩
     refine ⟨_, rfl, ?_⟩
     have n0_ := Aside0.mk (Kd.V_below (by (with_reducible repeat (first | apply Kd.V_alloc | apply Kd.V_drewN | apply Kd.V_drew)); exact HO611.out) hb)
     have n1_ := Aside0.mk (Kd.S_below (by (with_reducible repeat (first | apply Kd.S_alloc | apply Kd.S_drewN | apply Kd.S_drew)); exact HO615.out) hb)
     have n2_ := Aside0.mk (blk_below (g := gb606) (o := .cells #[.int .i64 a0_0, .int .i64 a0_1, .slice A0_2 l0_2.length c0_2] 27 (0, 0)) (by (with_reducible repeat (first | refine blk_drewN ?_ _ | refine blk_drew ?_ | refine blk_alloc ?_ _)); exact BK606.out) hb)
     have n3_ := Aside0.mk (below_step (by repeat (first | (with_reducible first | exact HB.out | apply below_alloc | apply pw_below_drewN | apply below_drew1 | refine below_set ?_ GE606.out) | exact HB.out)) hb)
     clear HO611
     clear HO615
     clear BK606
     clear HB
     have HO611 := n0_
     have HO615 := n1_
     have BK606 := n2_
     have HB := n3_
     clear n0_ n1_ n2_ n3_
     (try clear hb)
     (try clear hb2)
     (try clear hk)
     (try clear hi)
     obtain ⟨Ao41, co41, eo41⟩ := Kd.V_slice HO611.out
     (first | subst eo41 | (injection eo41 with f1_ f2_ f3_; have f4_ := f1_.symm; have f5_ := f3_.symm; clear f1_ f2_ f3_; subst f4_; subst f5_))
     obtain ⟨Ao42, co42, eo42⟩ := Kd.S_slice HO615.out
     (first | subst eo42 | (injection eo42 with f1_ f2_ f3_; have f4_ := f1_.symm; have f5_ := f3_.symm; clear f1_ f2_ f3_; subst f4_; subst f5_))
     refine hK.out _ _ ⟨(blk_cell BK606.out 0).trans rfl, (blk_cell BK606.out 1).trans rfl, (blk_cell BK606.out 2).trans rfl⟩ (fun hHeld => ?_)
     clear hK K
     refine norm_ (a' := ?_) ?_ ?_
     rotate_left
     ·show Act.put _ (some 23) _ = _
      simp only [Act.put, List.setIfInBounds_toArray, List.set_cons_zero, List.set_cons_succ, i64_w, i32_w]
      rfl
     refine pure_ (i := 4) (N := some 24) (v := ?_) (a' := ?_) #[true, true, true, true, true, false, false, false, false, false, false, false, false, false, false, false, false, false, false] rfl rfl (any_of HT_.out (by kernel_rfl)) (fun _ _ _ h => h) (Or.inl ⟨by rfl, ?_⟩) ?_ ?_
     rotate_left
     ·intro w'
      go_simp
      with_reducible rfl
     rotate_left
     ·simp only [Act.put, List.setIfInBounds_toArray, List.set_cons_zero, List.set_cons_succ, i64_w, i32_w]
      rfl
     refine pure_ (i := 5) (N := some 25) (v := ?_) (a' := ?_) #[true, true, true, true, true, true, false, false, false, false, false, false, false, false, false, false, false, false, false] rfl rfl (any_of HT_.out (by kernel_rfl)) (fun _ _ _ h => h) (Or.inl ⟨by rfl, ?_⟩) ?_ ?_
     rotate_left
     ·intro w'
      go_simp
      with_reducible rfl
     rotate_left
     ·simp only [Act.put, List.setIfInBounds_toArray, List.set_cons_zero, List.set_cons_succ, i64_w, i32_w]
      rfl
     refine pure_ (i := 6) (N := some 26) (v := ?_) (a' := ?_) #[true, true, true, true, true, true, true, false, false, false, false, false, false, false, false, false, false, false, false] rfl rfl (any_of HT_.out (by kernel_rfl)) (fun _ _ _ h => h) (Or.inl ⟨by rfl, ?_⟩) ?_ ?_
     rotate_left
     ·intro w'
      go_simp
      with_reducible rfl
     rotate_left
     ·simp only [Act.put, List.setIfInBounds_toArray, List.set_cons_zero, List.set_cons_succ, i64_w, i32_w]
      rfl
     refine pure_ (i := 7) (N := some 27) (v := ?_) (a' := ?_) #[true, true, true, true, true, true, true, true, false, false, false, false, false, false, false, false, false, false, false] rfl rfl (any_of HT_.out (by kernel_rfl)) (fun _ _ _ h => h) (Or.inl ⟨by rfl, ?_⟩) ?_ ?_
     rotate_left
     ·intro w'
      go_simp
      with_reducible rfl
     rotate_left
     ·simp only [Act.put, List.setIfInBounds_toArray, List.set_cons_zero, List.set_cons_succ, i64_w, i32_w]
      rfl
     refine pure_ (i := 8) (N := some 28) (v := ?_) (a' := ?_) #[true, true, true, true, true, true, true, true, true, false, false, false, false, false, false, false, false, false, false] rfl rfl (any_of HT_.out (by kernel_rfl)) (fun _ _ _ h => h) (Or.inl ⟨by rfl, ?_⟩) ?_ ?_
     rotate_left
     ·intro w'
      go_simp
      with_reducible rfl
     rotate_left
     ·simp only [Act.put, List.setIfInBounds_toArray, List.set_cons_zero, List.set_cons_succ, i64_w, i32_w]
      rfl
     refine pure_ (i := 9) (N := some 29) (v := ?_) (a' := ?_) #[true, true, true, true, true, true, true, true, true, true, false, false, false, false, false, false, false, false, false] rfl rfl (any_of HT_.out (by kernel_rfl)) (fun _ _ _ h => h) (Or.inl ⟨by rfl, ?_⟩) ?_ ?_
     rotate_left
     ·intro w'
      go_simp
      with_reducible rfl
     rotate_left
     ·simp only [Act.put, List.setIfInBounds_toArray, List.set_cons_zero, List.set_cons_succ, i64_w, i32_w]
      rfl
     refine pure_ (i := 10) (N := some 30) (v := ?_) (a' := ?_) #[true, true, true, true, true, true, true, true, true, true, true, false, false, false, false, false, false, false, false] rfl rfl (any_of HT_.out (by kernel_rfl)) (fun _ _ _ h => h) (Or.inl ⟨by rfl, ?_⟩) ?_ ?_
     rotate_left
     ·intro w'
      go_simp
      with_reducible rfl
     rotate_left
     ·simp only [Act.put, List.setIfInBounds_toArray, List.set_cons_zero, List.set_cons_succ, i64_w, i32_w]
      rfl
     refine pure_ (i := 11) (N := some 31) (v := ?_) (a' := ?_) #[true, true, true, true, true, true, true, true, true, true, true, true, false, false, false, false, false, false, false] rfl rfl (any_of HT_.out (by kernel_rfl)) (fun _ _ _ h => h) (Or.inl ⟨by rfl, ?_⟩) ?_ ?_
     rotate_left
     ·intro w'
      go_simp
      with_reducible rfl
     rotate_left
     ·simp only [Act.put, List.setIfInBounds_toArray, List.set_cons_zero, List.set_cons_succ, i64_w, i32_w]
      rfl
     refine pure_ (i := 12) (N := some 32) (v := ?_) (a' := ?_) #[true, true, true, true, true, true, true, true, true, true, true, true, true, false, false, false, false, false, false] rfl rfl (any_of HT_.out (by kernel_rfl)) (fun _ _ _ h => h) (Or.inl ⟨by rfl, ?_⟩) ?_ ?_
     rotate_left
     ·intro w'
      go_simp
      with_reducible rfl
     rotate_left
     ·simp only [Act.put, List.setIfInBounds_toArray, List.set_cons_zero, List.set_cons_succ, i64_w, i32_w]
      rfl
     refine one_ (i := 13) (N := some 33) #[true, true, true, true, true, true, true, true, true, true, true, true, true, true, false, false, false, false, false] rfl rfl (one_of HT_.out (by kernel_rfl)) (by decide) (fun K hK => ?_)
     refine goes_ Try.func31 (by kernel_rfl) rfl #[.slice Ao41 t609.length co41, .slice Ao42 t613.length co42] (by rfl) rfl rfl (by (try simp only [List.map_toArray, List.map_cons, List.map_nil]); first | done | rfl | (simp only [List.length_drop, List.length_take]; rfl)) ?_
     with_reducible refine (tenetref24_EqMonos.calls k _ _ t609 _ _ t613 false _ ?side1 ?side2 ?side3 ?side4 A15.out).mono ?_
     (case side1 => repeat (first | exact (Kd.V_reads' HO611.out).2.2 | (with_reducible refine Kd.C_alloc ?_ _) | (with_reducible refine Kd.C_drewN ?_ _) | (with_reducible refine Kd.C_drew ?_)))
     (case side2 => exact (Kd.V_reads' HO611.out).2.1)
     (case side3 => repeat (first | exact (Kd.S_reads' HO615.out).2.2 | (with_reducible refine Kd.C_alloc ?_ _) | (with_reducible refine Kd.C_drewN ?_ _) | (with_reducible refine Kd.C_drew ?_)))
     (case side4 => exact (Kd.S_reads' HO615.out).2.1)
     rintro e w' ⟨rfl, ⟨nd, rfl⟩⟩
     refine ⟨_, rfl, ?_⟩
     refine hK.out _ _ ⟨(blk_cell BK606.out 0).trans rfl, (blk_cell BK606.out 1).trans rfl, (blk_cell BK606.out 2).trans rfl⟩ (fun hHeld => ?_)
     clear hK K
     refine norm_ (a' := ?_) ?_ ?_
     rotate_left
     ·show Act.put _ (some 33) _ = _
      simp only [Act.put, List.setIfInBounds_toArray, List.set_cons_zero, List.set_cons_succ, i64_w, i32_w]
      rfl
     refine pure_ (i := 14) (N := some 34) (v := ?_) (a' := ?_) #[true, true, true, true, true, true, true, true, true, true, true, true, true, true, true, false, false, false, false] rfl rfl (any_of HT_.out (by kernel_rfl)) (fun _ _ _ h => h) (Or.inl ⟨by rfl, ?_⟩) ?_ ?_
     rotate_left
     ·intro w'
      go_simp
      with_reducible rfl
     rotate_left
     ·simp only [Act.put, List.setIfInBounds_toArray, List.set_cons_zero, List.set_cons_succ, i64_w, i32_w]
      rfl
     refine pure_ (i := 15) (N := some 35) (v := ?_) (a' := ?_) #[true, true, true, true, true, true, true, true, true, true, true, true, true, true, true, true, false, false, false] rfl rfl (any_of HT_.out (by kernel_rfl)) (fun _ _ _ h => h) (Or.inl ⟨by rfl, ?_⟩) ?_ ?_
     rotate_left
     ·intro w'
      go_simp
      with_reducible rfl
     rotate_left
     ·simp only [Act.put, List.setIfInBounds_toArray, List.set_cons_zero, List.set_cons_succ, i64_w, i32_w]
      rfl
     refine pure_ (i := 16) (N := some 36) (v := undef) (a' := ?_) #[true, true, true, true, true, true, true, true, true, true, true, true, true, true, true, true, true, false, false] rfl rfl (any_of HT_.out (by kernel_rfl)) (fun _ _ _ h => h) (Or.inr ⟨by rfl, rfl⟩) ?_ ?_
     rotate_left
     ·simp only [Act.put, List.setIfInBounds_toArray, List.set_cons_zero, List.set_cons_succ, i64_w, i32_w]
      rfl
     refine pure_ (i := 17) (N := some 37) (v := ?_) (a' := ?_) #[true, true, true, true, true, true, true, true, true, true, true, true, true, true, true, true, true, true, false] rfl rfl (any_of HT_.out (by kernel_rfl)) (fun _ _ _ h => h) (Or.inl ⟨by rfl, ?_⟩) ?_ ?_
     rotate_left
     ·intro w'
      go_simp
      with_reducible rfl
     rotate_left
     ·simp only [Act.put, List.setIfInBounds_toArray, List.set_cons_zero, List.set_cons_succ, i64_w, i32_w]
      rfl
     refine pure_ (i := 18) (N := some 2) (v := ?_) (a' := ?_) #[true, true, true, true, true, true, true, true, true, true, true, true, true, true, true, true, true, true, true] rfl rfl (any_of HT_.out (by kernel_rfl)) (fun _ _ _ h => h) (Or.inl ⟨by rfl, ?_⟩) ?_ ?_
     rotate_left
     ·intro w'
      go_simp
      with_reducible rfl
     rotate_left
     ·simp only [Act.put, List.setIfInBounds_toArray, List.set_cons_zero, List.set_cons_succ, i64_w, i32_w]
      rfl
     refine done_ (done_of HT_.out (by kernel_rfl)) ?_
     try go_wp2
     go_ret
     exact ⟨by first | rfl | (simp [errW_none, errW_some] <;> rfl) | (simp [*, errW_none, errW_some] <;> rfl), by repeat (first | (with_reducible first | exact HB.out | apply below_alloc | apply pw_below_drewN | apply below_drew1 | refine below_set ?_ GE606.out) | exact HB.out)⟩
   ·rw [if_neg c14] at H
    have c14b0 : (t612 == t616) = false := beq_eq_false_iff_ne.mpr c14
    have c14b1 : (t612 != t616) = true := bne_iff_ne.mpr c14
    obtain rfl := Option.some.inj H
    go_enter Try.func7, Try.ntmps7
    try go_wp2_with (first | ((with_reducible refine gate_dst (N := 1) rfl ?_); refine box_event ?hg (N := 1) ?hd (cs := #[.int .i64 a0_0, .int .i64 a0_1, .slice A0_2 l0_2.length c0_2]) (t := 27) ?hr ?_; (case hd => rfl); (case hg => rfl); (case hr => first | (go_simp; done) | (go_simp; rfl)); intro gb606 hg w43 hbox hb; have n0_ := Aside0.mk (below_step (by repeat (first | (with_reducible first | exact HB.out | apply below_alloc | apply pw_below_drewN | apply below_drew1) | exact HB.out)) hb); have n1_ := Aside0.mk (hbox); have n2_ := Aside0.mk ((by rw [hg]; exact (below_size (by repeat (first | (with_reducible first | exact HB.out | apply below_alloc | apply pw_below_drewN | apply below_drew1) | exact HB.out))) : w.heap.size ≤ gb606)); have n3_ := Aside0.mk ((by rw [hg]; exact (below_size (by repeat (first | (with_reducible first | exact HB.out | apply below_alloc | apply pw_below_drewN | apply below_drew1) | exact HB.out))) : w.heap.size ≤ gb606)); clear HB; have HB := n0_; have BK606 := n1_; have GW606 := n2_; have GE606 := n3_; clear n0_ n1_ n2_ n3_; clear hb hbox hg; have hcz44_0 : w43.cell? ⟨gb606, 0, none⟩ = some (.int .i64 a0_0) := (blk_cell BK606.out 0).trans rfl; have hcz44_1 : w43.cell? ⟨gb606, 1, none⟩ = some (.int .i64 a0_1) := (blk_cell BK606.out 1).trans rfl; have hcz44_2 : w43.cell? ⟨gb606, 2, none⟩ = some (.slice A0_2 l0_2.length c0_2) := (blk_cell BK606.out 2).trans rfl; have hfz44_0 := blk_frozen BK606.out 0; have hfz44_1 := blk_frozen BK606.out 1; have hfz44_2 := blk_frozen BK606.out 2) | ((with_reducible refine gate_callee (f := 17) rfl ?_); refine goesL_ (some 8) rfl rfl Try.func17 (by kernel_rfl) rfl #[.agg #[.int .i64 a0_0, .int .i64 a0_1, .slice A0_2 l0_2.length c0_2]] rfl (by (try simp only [List.map_toArray, List.map_cons, List.map_nil]); first | done | rfl | (simp only [List.length_drop, List.length_take]; rfl)) ?_; (with_reducible refine (tenetlaw24_big.calls k a0_0 a0_1 _ _ l0_2 false _ ?side1 ?side2 A2.out).mono ?_); (case side1 => repeat (first | exact (Kd.C_below HR0_2.out HB.out) | (with_reducible refine Kd.C_alloc ?_ _) | (with_reducible refine Kd.C_drewN ?_ _) | (with_reducible refine Kd.C_drew ?_))); (case side2 => exact HC0_2.out); rintro e w45 ⟨rfl, hb⟩; refine ⟨_, rfl, ?_⟩; have n0_ := Aside0.mk (blk_below (g := gb606) (o := .cells #[.int .i64 a0_0, .int .i64 a0_1, .slice A0_2 l0_2.length c0_2] 27 (0, 0)) (by (with_reducible repeat (first | refine blk_drewN ?_ _ | refine blk_drew ?_ | refine blk_alloc ?_ _)); exact BK606.out) hb); have n1_ := Aside0.mk (below_step (by repeat (first | (with_reducible first | exact HB.out | apply below_alloc | apply pw_below_drewN | apply below_drew1 | refine below_set ?_ GE606.out) | exact HB.out)) hb); clear BK606; clear HB; have BK606 := n0_; have HB := n1_; clear n0_ n1_; (try clear hb); (try clear hb2); (try clear hk); (try clear hi); have hcz46_0 : w45.cell? ⟨gb606, 0, none⟩ = some (.int .i64 a0_0) := (blk_cell BK606.out 0).trans rfl; have hcz46_1 : w45.cell? ⟨gb606, 1, none⟩ = some (.int .i64 a0_1) := (blk_cell BK606.out 1).trans rfl; have hcz46_2 : w45.cell? ⟨gb606, 2, none⟩ = some (.slice A0_2 l0_2.length c0_2) := (blk_cell BK606.out 2).trans rfl; have hfz46_0 := blk_frozen BK606.out 0; have hfz46_1 := blk_frozen BK606.out 1; have hfz46_2 := blk_frozen BK606.out 2) | ((with_reducible refine gate_callee (f := 27) rfl ?_); refine goesL_ (some 12) rfl rfl Try.func27 (by kernel_rfl) rfl #[.agg #[.int .i64 a0_0, .int .i64 a0_1, .slice A0_2 l0_2.length c0_2]] rfl (by (try simp only [List.map_toArray, List.map_cons, List.map_nil]); first | done | rfl | (simp only [List.length_drop, List.length_take]; rfl)) ?_; (with_reducible refine (ring_Normal.calls a0_0 a0_1 _ _ l0_2 t609 t612 _ ?side1 ?side2 A9.out).mono ?_); (case side1 => repeat (first | exact (Kd.C_below HR0_2.out HB.out) | (with_reducible refine Kd.C_alloc ?_ _) | (with_reducible refine Kd.C_drewN ?_ _) | (with_reducible refine Kd.C_drew ?_))); (case side2 => exact HC0_2.out); rintro e w47 ⟨v610, rfl, ho0, hb⟩; refine ⟨_, rfl, ?_⟩; have n0_ := Aside0.mk (Kd.V_lower (Kd.V_mono (ok' := fun k_ => k_ ≠ gb606) ho0 (fun k_ hk_ => (Kd.freshB (g := gb606) (o := .cells #[.int .i64 a0_0, .int .i64 a0_1, .slice A0_2 l0_2.length c0_2] 27 (0, 0)) (by (with_reducible repeat (first | refine blk_drewN ?_ _ | refine blk_drew ?_ | refine blk_alloc ?_ _)); exact BK606.out) k_ hk_))) (below_size (by repeat (first | (with_reducible first | exact HB.out | apply below_alloc | apply pw_below_drewN | apply below_drew1 | refine below_set ?_ GE606.out) | exact HB.out)))); have n1_ := Aside0.mk (blk_below (g := gb606) (o := .cells #[.int .i64 a0_0, .int .i64 a0_1, .slice A0_2 l0_2.length c0_2] 27 (0, 0)) (by (with_reducible repeat (first | refine blk_drewN ?_ _ | refine blk_drew ?_ | refine blk_alloc ?_ _)); exact BK606.out) hb); have n2_ := Aside0.mk (below_step (by repeat (first | (with_reducible first | exact HB.out | apply below_alloc | apply pw_below_drewN | apply below_drew1 | refine below_set ?_ GE606.out) | exact HB.out)) hb); clear BK606; clear HB; have HO611 := n0_; have BK606 := n1_; have HB := n2_; clear n0_ n1_ n2_; (try clear hb); (try clear hb2); (try clear hk); (try clear hi); (try clear ho0); have hcz48_0 : w47.cell? ⟨gb606, 0, none⟩ = some (.int .i64 a0_0) := (blk_cell BK606.out 0).trans rfl; have hcz48_1 : w47.cell? ⟨gb606, 1, none⟩ = some (.int .i64 a0_1) := (blk_cell BK606.out 1).trans rfl; have hcz48_2 : w47.cell? ⟨gb606, 2, none⟩ = some (.slice A0_2 l0_2.length c0_2) := (blk_cell BK606.out 2).trans rfl; have hfz48_0 := blk_frozen BK606.out 0; have hfz48_1 := blk_frozen BK606.out 1; have hfz48_2 := blk_frozen BK606.out 2) | ((with_reducible refine gate_callee (f := 28) rfl ?_); refine goesL_ (some 17) rfl rfl Try.func28 (by kernel_rfl) rfl #[.agg #[.int .i64 a0_0, .int .i64 a0_1, .slice A0_2 l0_2.length c0_2]] rfl (by (try simp only [List.map_toArray, List.map_cons, List.map_nil]); first | done | rfl | (simp only [List.length_drop, List.length_take]; rfl)) ?_; (with_reducible refine (tenetref24_Normal.calls k a0_0 a0_1 _ _ l0_2 t613 t616 _ ?side1 ?side2 A10.out).mono ?_); (case side1 => repeat (first | exact (Kd.C_below HR0_2.out HB.out) | (with_reducible refine Kd.C_alloc ?_ _) | (with_reducible refine Kd.C_drewN ?_ _) | (with_reducible refine Kd.C_drew ?_))); (case side2 => exact HC0_2.out); rintro e w49 ⟨v614, rfl, ho0, hb⟩; refine ⟨_, rfl, ?_⟩; have n0_ := Aside0.mk (Kd.V_elder' (by (with_reducible repeat (first | apply Kd.V_alloc | apply Kd.V_drewN | apply Kd.V_drew)); exact HO611.out) (Kd.S_base ho0) hb); have n1_ := Aside0.mk (Kd.S_lower ho0 (below_size (by repeat (first | (with_reducible first | exact HB.out | apply below_alloc | apply pw_below_drewN | apply below_drew1 | refine below_set ?_ GE606.out) | exact HB.out)))); have n2_ := Aside0.mk (blk_below (g := gb606) (o := .cells #[.int .i64 a0_0, .int .i64 a0_1, .slice A0_2 l0_2.length c0_2] 27 (0, 0)) (by (with_reducible repeat (first | refine blk_drewN ?_ _ | refine blk_drew ?_ | refine blk_alloc ?_ _)); exact BK606.out) hb); have n3_ := Aside0.mk (below_step (by repeat (first | (with_reducible first | exact HB.out | apply below_alloc | apply pw_below_drewN | apply below_drew1 | refine below_set ?_ GE606.out) | exact HB.out)) hb); clear HO611; clear BK606; clear HB; have HO611 := n0_; have HO615 := n1_; have BK606 := n2_; have HB := n3_; clear n0_ n1_ n2_ n3_; (try clear hb); (try clear hb2); (try clear hk); (try clear hi); (try clear ho0)))
    have n0_ := Aside0.mk (Kd.V_drew HO611.out)
    have n1_ := Aside0.mk (Kd.S_drew HO615.out)
    have n2_ := Aside0.mk (blk_drew BK606.out)
    have n3_ := Aside0.mk (below_drew1 HB.out)
    clear HO611
    clear HO615
    clear BK606
    clear HB
    have HO611 := n0_
    have HO615 := n1_
    have BK606 := n2_
    have HB := n3_
    clear n0_ n1_ n2_ n3_
    refine start_ (n := 19) (S := fun w' => w'.cell? ⟨gb606, 0, none⟩ = some (.int .i64 a0_0) ∧ w'.cell? ⟨gb606, 1, none⟩ = some (.int .i64 a0_1) ∧ w'.cell? ⟨gb606, 2, none⟩ = some (.slice A0_2 l0_2.length c0_2)) (ds := []) #[false, false, false, false, false, false, false, false, false, false, false, false, false, false, false, false, false, false, false] (by kernel_rfl) rfl rfl ⟨(blk_cell BK606.out 0).trans rfl, (blk_cell BK606.out 1).trans rfl, (blk_cell BK606.out 2).trans rfl⟩ (fun hHeld => ?_); refine with_tabW tenetlaw24_RingNormals.tab5 tenetlaw24_RingNormals.bits5 (fun HT_ HW_ => ?_)
    generalize w49.drew = w50 at HO611 HO615 BK606 HB hHeld ⊢
    refine take_ (i := 0) (N := some 20) (v := ?_) (a' := ?_) #[true, false, false, false, false, false, false, false, false, false, false, false, false, false, false, false, false, false, false] rfl rfl (take_ofW HT_.out HW_.out (by kernel_rfl)) (fun _ _ _ h => h) (Or.inl ⟨by rfl, ?_⟩) hHeld ?_ ?_
    rotate_left
    ·rintro w' ⟨s0, s1, s2⟩
     go_simp
     with_reducible rfl
    rotate_left
    ·simp only [Act.put, List.setIfInBounds_toArray, List.set_cons_zero, List.set_cons_succ, i64_w, i32_w]
     rfl
    refine take_ (i := 2) (N := some 22) (v := ?_) (a' := ?_) #[true, false, true, false, false, false, false, false, false, false, false, false, false, false, false, false, false, false, false] rfl rfl (take_ofW HT_.out HW_.out (by kernel_rfl)) (fun _ _ _ h => h) (Or.inl ⟨by rfl, ?_⟩) hHeld ?_ ?_
    rotate_left
    ·rintro w' ⟨s0, s1, s2⟩
     go_simp
     with_reducible rfl
    rotate_left
    ·simp only [Act.put, List.setIfInBounds_toArray, List.set_cons_zero, List.set_cons_succ, i64_w, i32_w]
     rfl
    refine one_ (i := 1) (N := some 21) #[true, true, true, false, false, false, false, false, false, false, false, false, false, false, false, false, false, false, false] rfl rfl (one_of HT_.out (by kernel_rfl)) (by decide) (fun K hK => ?_)
    refine goes_ Try.func29 (by kernel_rfl) rfl #[.agg #[.int .i64 a0_0, .int .i64 a0_1, .slice A0_2 l0_2.length c0_2]] (by rfl) rfl rfl (by (try simp only [List.map_toArray, List.map_cons, List.map_nil]); first | done | rfl | (simp only [List.length_drop, List.length_take]; rfl)) ?_
    with_reducible refine (ring_Valid.calls a0_0 a0_1 _ _ l0_2 t617 _ ?side1 ?side2 A11.out).mono ?_
    (case side1 => repeat (first | exact (Kd.C_below HR0_2.out HB.out) | (with_reducible refine Kd.C_alloc ?_ _) | (with_reducible refine Kd.C_drewN ?_ _) | (with_reducible refine Kd.C_drew ?_)))
    (case side2 => exact HC0_2.out)
    rintro e w51 ⟨rfl, hb⟩
    refine ⟨_, rfl, ?_⟩
    have n0_ := Aside0.mk (Kd.V_below (by (with_reducible repeat (first | apply Kd.V_alloc | apply Kd.V_drewN | apply Kd.V_drew)); exact HO611.out) hb)
    have n1_ := Aside0.mk (Kd.S_below (by (with_reducible repeat (first | apply Kd.S_alloc | apply Kd.S_drewN | apply Kd.S_drew)); exact HO615.out) hb)
    have n2_ := Aside0.mk (blk_below (g := gb606) (o := .cells #[.int .i64 a0_0, .int .i64 a0_1, .slice A0_2 l0_2.length c0_2] 27 (0, 0)) (by (with_reducible repeat (first | refine blk_drewN ?_ _ | refine blk_drew ?_ | refine blk_alloc ?_ _)); exact BK606.out) hb)
    have n3_ := Aside0.mk (below_step (by repeat (first | (with_reducible first | exact HB.out | apply below_alloc | apply pw_below_drewN | apply below_drew1 | refine below_set ?_ GE606.out) | exact HB.out)) hb)
    clear HO611
    clear HO615
    clear BK606
    clear HB
    have HO611 := n0_
    have HO615 := n1_
    have BK606 := n2_
    have HB := n3_
    clear n0_ n1_ n2_ n3_
    (try clear hb)
    (try clear hb2)
    (try clear hk)
    (try clear hi)
    refine hK.out _ _ ⟨(blk_cell BK606.out 0).trans rfl, (blk_cell BK606.out 1).trans rfl, (blk_cell BK606.out 2).trans rfl⟩ (fun hHeld => ?_)
    clear hK K
    refine norm_ (a' := ?_) ?_ ?_
    rotate_left
    ·show Act.put _ (some 21) _ = _
     simp only [Act.put, List.setIfInBounds_toArray, List.set_cons_zero, List.set_cons_succ, i64_w, i32_w]
     rfl
    refine one_ (i := 3) (N := some 23) #[true, true, true, true, false, false, false, false, false, false, false, false, false, false, false, false, false, false, false] rfl rfl (one_of HT_.out (by kernel_rfl)) (by decide) (fun K hK => ?_)
    refine goes_ Try.func30 (by kernel_rfl) rfl #[.agg #[.int .i64 a0_0, .int .i64 a0_1, .slice A0_2 l0_2.length c0_2]] (by rfl) rfl rfl (by (try simp only [List.map_toArray, List.map_cons, List.map_nil]); first | done | rfl | (simp only [List.length_drop, List.length_take]; rfl)) ?_
    with_reducible refine (tenetref24_Valid.calls k a0_0 a0_1 _ _ l0_2 t618 _ ?side1 ?side2 A12.out).mono ?_
    (case side1 => repeat (first | exact (Kd.C_below HR0_2.out HB.out) | (with_reducible refine Kd.C_alloc ?_ _) | (with_reducible refine Kd.C_drewN ?_ _) | (with_reducible refine Kd.C_drew ?_)))
    (case side2 => exact HC0_2.out)
    rintro e w52 ⟨rfl, hb⟩
    refine ⟨_, rfl, ?_⟩
    have n0_ := Aside0.mk (Kd.V_below (by (with_reducible repeat (first | apply Kd.V_alloc | apply Kd.V_drewN | apply Kd.V_drew)); exact HO611.out) hb)
    have n1_ := Aside0.mk (Kd.S_below (by (with_reducible repeat (first | apply Kd.S_alloc | apply Kd.S_drewN | apply Kd.S_drew)); exact HO615.out) hb)
    have n2_ := Aside0.mk (blk_below (g := gb606) (o := .cells #[.int .i64 a0_0, .int .i64 a0_1, .slice A0_2 l0_2.length c0_2] 27 (0, 0)) (by (with_reducible repeat (first | refine blk_drewN ?_ _ | refine blk_drew ?_ | refine blk_alloc ?_ _)); exact BK606.out) hb)
    have n3_ := Aside0.mk (below_step (by repeat (first | (with_reducible first | exact HB.out | apply below_alloc | apply pw_below_drewN | apply below_drew1 | refine below_set ?_ GE606.out) | exact HB.out)) hb)
    clear HO611
    clear HO615
    clear BK606
    clear HB
    have HO611 := n0_
    have HO615 := n1_
    have BK606 := n2_
    have HB := n3_
    clear n0_ n1_ n2_ n3_
    (try clear hb)
    (try clear hb2)
    (try clear hk)
    (try clear hi)
    refine hK.out _ _ ⟨(blk_cell BK606.out 0).trans rfl, (blk_cell BK606.out 1).trans rfl, (blk_cell BK606.out 2).trans rfl⟩ (fun hHeld => ?_)
    clear hK K
    refine norm_ (a' := ?_) ?_ ?_
    rotate_left
    ·show Act.put _ (some 23) _ = _
     simp only [Act.put, List.setIfInBounds_toArray, List.set_cons_zero, List.set_cons_succ, i64_w, i32_w]
     rfl
    refine pure_ (i := 4) (N := some 24) (v := ?_) (a' := ?_) #[true, true, true, true, true, false, false, false, false, false, false, false, false, false, false, false, false, false, false] rfl rfl (any_of HT_.out (by kernel_rfl)) (fun _ _ _ h => h) (Or.inl ⟨by rfl, ?_⟩) ?_ ?_
    rotate_left
    ·intro w'
     go_simp
     with_reducible rfl
    rotate_left
    ·simp only [Act.put, List.setIfInBounds_toArray, List.set_cons_zero, List.set_cons_succ, i64_w, i32_w]
     rfl
    refine pure_ (i := 5) (N := some 25) (v := ?_) (a' := ?_) #[true, true, true, true, true, true, false, false, false, false, false, false, false, false, false, false, false, false, false] rfl rfl (any_of HT_.out (by kernel_rfl)) (fun _ _ _ h => h) (Or.inl ⟨by rfl, ?_⟩) ?_ ?_
    rotate_left
    ·intro w'
     go_simp
     with_reducible rfl
    rotate_left
    ·simp only [Act.put, List.setIfInBounds_toArray, List.set_cons_zero, List.set_cons_succ, i64_w, i32_w]
     rfl
    refine pure_ (i := 6) (N := some 26) (v := ?_) (a' := ?_) #[true, true, true, true, true, true, true, false, false, false, false, false, false, false, false, false, false, false, false] rfl rfl (any_of HT_.out (by kernel_rfl)) (fun _ _ _ h => h) (Or.inl ⟨by rfl, ?_⟩) ?_ ?_
    rotate_left
    ·intro w'
     go_simp
     with_reducible rfl
    rotate_left
    ·simp only [Act.put, List.setIfInBounds_toArray, List.set_cons_zero, List.set_cons_succ, i64_w, i32_w]
     rfl
    refine pure_ (i := 7) (N := some 27) (v := ?_) (a' := ?_) #[true, true, true, true, true, true, true, true, false, false, false, false, false, false, false, false, false, false, false] rfl rfl (any_of HT_.out (by kernel_rfl)) (fun _ _ _ h => h) (Or.inl ⟨by rfl, ?_⟩) ?_ ?_
    rotate_left
    ·intro w'
     go_simp
     with_reducible rfl
    rotate_left
    ·simp only [Act.put, List.setIfInBounds_toArray, List.set_cons_zero, List.set_cons_succ, i64_w, i32_w]
     rfl
    refine pure_ (i := 8) (N := some 28) (v := ?_) (a' := ?_) #[true, true, true, true, true, true, true, true, true, false, false, false, false, false, false, false, false, false, false] rfl rfl (any_of HT_.out (by kernel_rfl)) (fun _ _ _ h => h) (Or.inl ⟨by rfl, ?_⟩) ?_ ?_
    rotate_left
    ·intro w'
     go_simp
     with_reducible rfl
    rotate_left
    ·simp only [Act.put, List.setIfInBounds_toArray, List.set_cons_zero, List.set_cons_succ, i64_w, i32_w]
     rfl
    refine pure_ (i := 9) (N := some 29) (v := ?_) (a' := ?_) #[true, true, true, true, true, true, true, true, true, true, false, false, false, false, false, false, false, false, false] rfl rfl (any_of HT_.out (by kernel_rfl)) (fun _ _ _ h => h) (Or.inl ⟨by rfl, ?_⟩) ?_ ?_
    rotate_left
    ·intro w'
     go_simp
     with_reducible rfl
    rotate_left
    ·simp only [Act.put, List.setIfInBounds_toArray, List.set_cons_zero, List.set_cons_succ, i64_w, i32_w]
     rfl
    refine pure_ (i := 10) (N := some 30) (v := ?_) (a' := ?_) #[true, true, true, true, true, true, true, true, true, true, true, false, false, false, false, false, false, false, false] rfl rfl (any_of HT_.out (by kernel_rfl)) (fun _ _ _ h => h) (Or.inl ⟨by rfl, ?_⟩) ?_ ?_
    rotate_left
    ·intro w'
     go_simp
     with_reducible rfl
    rotate_left
    ·simp only [Act.put, List.setIfInBounds_toArray, List.set_cons_zero, List.set_cons_succ, i64_w, i32_w]
     rfl
    refine pure_ (i := 11) (N := some 31) (v := undef) (a' := ?_) #[true, true, true, true, true, true, true, true, true, true, true, true, false, false, false, false, false, false, false] rfl rfl (any_of HT_.out (by kernel_rfl)) (fun _ _ _ h => h) (Or.inr ⟨by rfl, rfl⟩) ?_ ?_
    rotate_left
    ·simp only [Act.put, List.setIfInBounds_toArray, List.set_cons_zero, List.set_cons_succ, i64_w, i32_w]
     rfl
    refine pure_ (i := 12) (N := some 32) (v := undef) (a' := ?_) #[true, true, true, true, true, true, true, true, true, true, true, true, true, false, false, false, false, false, false] rfl rfl (any_of HT_.out (by kernel_rfl)) (fun _ _ _ h => h) (Or.inr ⟨by rfl, rfl⟩) ?_ ?_
    rotate_left
    ·simp only [Act.put, List.setIfInBounds_toArray, List.set_cons_zero, List.set_cons_succ, i64_w, i32_w]
     rfl
    refine pure_ (i := 13) (N := some 33) (v := undef) (a' := ?_) #[true, true, true, true, true, true, true, true, true, true, true, true, true, true, false, false, false, false, false] rfl rfl (any_of HT_.out (by kernel_rfl)) (fun _ _ _ h => h) (Or.inr ⟨by rfl, rfl⟩) ?_ ?_
    rotate_left
    ·simp only [Act.put, List.setIfInBounds_toArray, List.set_cons_zero, List.set_cons_succ, i64_w, i32_w]
     rfl
    refine pure_ (i := 14) (N := some 34) (v := ?_) (a' := ?_) #[true, true, true, true, true, true, true, true, true, true, true, true, true, true, true, false, false, false, false] rfl rfl (any_of HT_.out (by kernel_rfl)) (fun _ _ _ h => h) (Or.inl ⟨by rfl, ?_⟩) ?_ ?_
    rotate_left
    ·intro w'
     go_simp
     with_reducible rfl
    rotate_left
    ·simp only [Act.put, List.setIfInBounds_toArray, List.set_cons_zero, List.set_cons_succ, i64_w, i32_w]
     rfl
    refine pure_ (i := 15) (N := some 35) (v := ?_) (a' := ?_) #[true, true, true, true, true, true, true, true, true, true, true, true, true, true, true, true, false, false, false] rfl rfl (any_of HT_.out (by kernel_rfl)) (fun _ _ _ h => h) (Or.inl ⟨by rfl, ?_⟩) ?_ ?_
    rotate_left
    ·intro w'
     go_simp
     with_reducible rfl
    rotate_left
    ·simp only [Act.put, List.setIfInBounds_toArray, List.set_cons_zero, List.set_cons_succ, i64_w, i32_w]
     rfl
    refine pure_ (i := 16) (N := some 36) (v := undef) (a' := ?_) #[true, true, true, true, true, true, true, true, true, true, true, true, true, true, true, true, true, false, false] rfl rfl (any_of HT_.out (by kernel_rfl)) (fun _ _ _ h => h) (Or.inr ⟨by rfl, rfl⟩) ?_ ?_
    rotate_left
    ·simp only [Act.put, List.setIfInBounds_toArray, List.set_cons_zero, List.set_cons_succ, i64_w, i32_w]
     rfl
    refine pure_ (i := 17) (N := some 37) (v := ?_) (a' := ?_) #[true, true, true, true, true, true, true, true, true, true, true, true, true, true, true, true, true, true, false] rfl rfl (any_of HT_.out (by kernel_rfl)) (fun _ _ _ h => h) (Or.inl ⟨by rfl, ?_⟩) ?_ ?_
    rotate_left
    ·intro w'
     go_simp
     with_reducible rfl
    rotate_left
    ·simp only [Act.put, List.setIfInBounds_toArray, List.set_cons_zero, List.set_cons_succ, i64_w, i32_w]
     rfl
    refine pure_ (i := 18) (N := some 2) (v := ?_) (a' := ?_) #[true, true, true, true, true, true, true, true, true, true, true, true, true, true, true, true, true, true, true] rfl rfl (any_of HT_.out (by kernel_rfl)) (fun _ _ _ h => h) (Or.inl ⟨by rfl, ?_⟩) ?_ ?_
    rotate_left
    ·intro w'
     go_simp
     with_reducible rfl
    rotate_left
    ·simp only [Act.put, List.setIfInBounds_toArray, List.set_cons_zero, List.set_cons_succ, i64_w, i32_w]
     rfl
    refine done_ (done_of HT_.out (by kernel_rfl)) ?_
    try go_wp2
    go_ret
    exact ⟨by first | rfl | (simp [errW_none, errW_some] <;> rfl) | (simp [*, errW_none, errW_some] <;> rfl), by repeat (first | (with_reducible first | exact HB.out | apply below_alloc | apply pw_below_drewN | apply below_drew1 | refine below_set ?_ GE606.out) | exact HB.out)⟩
  ·rw [if_neg c13] at H
   have c13b0 : (t617 == t618) = false := by simpa using c13
   (try (have c13b1 : decide (t617 = t618) = false := by simpa using c13))
   (try (have c13b2 : (t617 == t618) = false := by simpa using c13))
   (try (have c13b3 : ¬ (t617 = t618) := by simpa using c13))
   clear c13
   obtain rfl := Option.some.inj H
   go_enter Try.func7, Try.ntmps7
   try go_wp2_with (first | ((with_reducible refine gate_dst (N := 1) rfl ?_); refine box_event ?hg (N := 1) ?hd (cs := #[.int .i64 a0_0, .int .i64 a0_1, .slice A0_2 l0_2.length c0_2]) (t := 27) ?hr ?_; (case hd => rfl); (case hg => rfl); (case hr => first | (go_simp; done) | (go_simp; rfl)); intro gb606 hg w53 hbox hb; have n0_ := Aside0.mk (below_step (by repeat (first | (with_reducible first | exact HB.out | apply below_alloc | apply pw_below_drewN | apply below_drew1) | exact HB.out)) hb); have n1_ := Aside0.mk (hbox); have n2_ := Aside0.mk ((by rw [hg]; exact (below_size (by repeat (first | (with_reducible first | exact HB.out | apply below_alloc | apply pw_below_drewN | apply below_drew1) | exact HB.out))) : w.heap.size ≤ gb606)); have n3_ := Aside0.mk ((by rw [hg]; exact (below_size (by repeat (first | (with_reducible first | exact HB.out | apply below_alloc | apply pw_below_drewN | apply below_drew1) | exact HB.out))) : w.heap.size ≤ gb606)); clear HB; have HB := n0_; have BK606 := n1_; have GW606 := n2_; have GE606 := n3_; clear n0_ n1_ n2_ n3_; clear hb hbox hg; have hcz54_0 : w53.cell? ⟨gb606, 0, none⟩ = some (.int .i64 a0_0) := (blk_cell BK606.out 0).trans rfl; have hcz54_1 : w53.cell? ⟨gb606, 1, none⟩ = some (.int .i64 a0_1) := (blk_cell BK606.out 1).trans rfl; have hcz54_2 : w53.cell? ⟨gb606, 2, none⟩ = some (.slice A0_2 l0_2.length c0_2) := (blk_cell BK606.out 2).trans rfl; have hfz54_0 := blk_frozen BK606.out 0; have hfz54_1 := blk_frozen BK606.out 1; have hfz54_2 := blk_frozen BK606.out 2) | ((with_reducible refine gate_callee (f := 17) rfl ?_); refine goesL_ (some 8) rfl rfl Try.func17 (by kernel_rfl) rfl #[.agg #[.int .i64 a0_0, .int .i64 a0_1, .slice A0_2 l0_2.length c0_2]] rfl (by (try simp only [List.map_toArray, List.map_cons, List.map_nil]); first | done | rfl | (simp only [List.length_drop, List.length_take]; rfl)) ?_; (with_reducible refine (tenetlaw24_big.calls k a0_0 a0_1 _ _ l0_2 false _ ?side1 ?side2 A2.out).mono ?_); (case side1 => repeat (first | exact (Kd.C_below HR0_2.out HB.out) | (with_reducible refine Kd.C_alloc ?_ _) | (with_reducible refine Kd.C_drewN ?_ _) | (with_reducible refine Kd.C_drew ?_))); (case side2 => exact HC0_2.out); rintro e w55 ⟨rfl, hb⟩; refine ⟨_, rfl, ?_⟩; have n0_ := Aside0.mk (blk_below (g := gb606) (o := .cells #[.int .i64 a0_0, .int .i64 a0_1, .slice A0_2 l0_2.length c0_2] 27 (0, 0)) (by (with_reducible repeat (first | refine blk_drewN ?_ _ | refine blk_drew ?_ | refine blk_alloc ?_ _)); exact BK606.out) hb); have n1_ := Aside0.mk (below_step (by repeat (first | (with_reducible first | exact HB.out | apply below_alloc | apply pw_below_drewN | apply below_drew1 | refine below_set ?_ GE606.out) | exact HB.out)) hb); clear BK606; clear HB; have BK606 := n0_; have HB := n1_; clear n0_ n1_; (try clear hb); (try clear hb2); (try clear hk); (try clear hi); have hcz56_0 : w55.cell? ⟨gb606, 0, none⟩ = some (.int .i64 a0_0) := (blk_cell BK606.out 0).trans rfl; have hcz56_1 : w55.cell? ⟨gb606, 1, none⟩ = some (.int .i64 a0_1) := (blk_cell BK606.out 1).trans rfl; have hcz56_2 : w55.cell? ⟨gb606, 2, none⟩ = some (.slice A0_2 l0_2.length c0_2) := (blk_cell BK606.out 2).trans rfl; have hfz56_0 := blk_frozen BK606.out 0; have hfz56_1 := blk_frozen BK606.out 1; have hfz56_2 := blk_frozen BK606.out 2) | ((with_reducible refine gate_callee (f := 27) rfl ?_); refine goesL_ (some 12) rfl rfl Try.func27 (by kernel_rfl) rfl #[.agg #[.int .i64 a0_0, .int .i64 a0_1, .slice A0_2 l0_2.length c0_2]] rfl (by (try simp only [List.map_toArray, List.map_cons, List.map_nil]); first | done | rfl | (simp only [List.length_drop, List.length_take]; rfl)) ?_; (with_reducible refine (ring_Normal.calls a0_0 a0_1 _ _ l0_2 t609 t612 _ ?side1 ?side2 A9.out).mono ?_); (case side1 => repeat (first | exact (Kd.C_below HR0_2.out HB.out) | (with_reducible refine Kd.C_alloc ?_ _) | (with_reducible refine Kd.C_drewN ?_ _) | (with_reducible refine Kd.C_drew ?_))); (case side2 => exact HC0_2.out); rintro e w57 ⟨v610, rfl, ho0, hb⟩; refine ⟨_, rfl, ?_⟩; have n0_ := Aside0.mk (Kd.V_lower (Kd.V_mono (ok' := fun k_ => k_ ≠ gb606) ho0 (fun k_ hk_ => (Kd.freshB (g := gb606) (o := .cells #[.int .i64 a0_0, .int .i64 a0_1, .slice A0_2 l0_2.length c0_2] 27 (0, 0)) (by (with_reducible repeat (first | refine blk_drewN ?_ _ | refine blk_drew ?_ | refine blk_alloc ?_ _)); exact BK606.out) k_ hk_))) (below_size (by repeat (first | (with_reducible first | exact HB.out | apply below_alloc | apply pw_below_drewN | apply below_drew1 | refine below_set ?_ GE606.out) | exact HB.out)))); have n1_ := Aside0.mk (blk_below (g := gb606) (o := .cells #[.int .i64 a0_0, .int .i64 a0_1, .slice A0_2 l0_2.length c0_2] 27 (0, 0)) (by (with_reducible repeat (first | refine blk_drewN ?_ _ | refine blk_drew ?_ | refine blk_alloc ?_ _)); exact BK606.out) hb); have n2_ := Aside0.mk (below_step (by repeat (first | (with_reducible first | exact HB.out | apply below_alloc | apply pw_below_drewN | apply below_drew1 | refine below_set ?_ GE606.out) | exact HB.out)) hb); clear BK606; clear HB; have HO611 := n0_; have BK606 := n1_; have HB := n2_; clear n0_ n1_ n2_; (try clear hb); (try clear hb2); (try clear hk); (try clear hi); (try clear ho0); have hcz58_0 : w57.cell? ⟨gb606, 0, none⟩ = some (.int .i64 a0_0) := (blk_cell BK606.out 0).trans rfl; have hcz58_1 : w57.cell? ⟨gb606, 1, none⟩ = some (.int .i64 a0_1) := (blk_cell BK606.out 1).trans rfl; have hcz58_2 : w57.cell? ⟨gb606, 2, none⟩ = some (.slice A0_2 l0_2.length c0_2) := (blk_cell BK606.out 2).trans rfl; have hfz58_0 := blk_frozen BK606.out 0; have hfz58_1 := blk_frozen BK606.out 1; have hfz58_2 := blk_frozen BK606.out 2) | ((with_reducible refine gate_callee (f := 28) rfl ?_); refine goesL_ (some 17) rfl rfl Try.func28 (by kernel_rfl) rfl #[.agg #[.int .i64 a0_0, .int .i64 a0_1, .slice A0_2 l0_2.length c0_2]] rfl (by (try simp only [List.map_toArray, List.map_cons, List.map_nil]); first | done | rfl | (simp only [List.length_drop, List.length_take]; rfl)) ?_; (with_reducible refine (tenetref24_Normal.calls k a0_0 a0_1 _ _ l0_2 t613 t616 _ ?side1 ?side2 A10.out).mono ?_); (case side1 => repeat (first | exact (Kd.C_below HR0_2.out HB.out) | (with_reducible refine Kd.C_alloc ?_ _) | (with_reducible refine Kd.C_drewN ?_ _) | (with_reducible refine Kd.C_drew ?_))); (case side2 => exact HC0_2.out); rintro e w59 ⟨v614, rfl, ho0, hb⟩; refine ⟨_, rfl, ?_⟩; have n0_ := Aside0.mk (Kd.V_elder' (by (with_reducible repeat (first | apply Kd.V_alloc | apply Kd.V_drewN | apply Kd.V_drew)); exact HO611.out) (Kd.S_base ho0) hb); have n1_ := Aside0.mk (Kd.S_lower ho0 (below_size (by repeat (first | (with_reducible first | exact HB.out | apply below_alloc | apply pw_below_drewN | apply below_drew1 | refine below_set ?_ GE606.out) | exact HB.out)))); have n2_ := Aside0.mk (blk_below (g := gb606) (o := .cells #[.int .i64 a0_0, .int .i64 a0_1, .slice A0_2 l0_2.length c0_2] 27 (0, 0)) (by (with_reducible repeat (first | refine blk_drewN ?_ _ | refine blk_drew ?_ | refine blk_alloc ?_ _)); exact BK606.out) hb); have n3_ := Aside0.mk (below_step (by repeat (first | (with_reducible first | exact HB.out | apply below_alloc | apply pw_below_drewN | apply below_drew1 | refine below_set ?_ GE606.out) | exact HB.out)) hb); clear HO611; clear BK606; clear HB; have HO611 := n0_; have HO615 := n1_; have BK606 := n2_; have HB := n3_; clear n0_ n1_ n2_ n3_; (try clear hb); (try clear hb2); (try clear hk); (try clear hi); (try clear ho0)))
   have n0_ := Aside0.mk (Kd.V_drew HO611.out)
   have n1_ := Aside0.mk (Kd.S_drew HO615.out)
   have n2_ := Aside0.mk (blk_drew BK606.out)
   have n3_ := Aside0.mk (below_drew1 HB.out)
   clear HO611
   clear HO615
   clear BK606
   clear HB
   have HO611 := n0_
   have HO615 := n1_
   have BK606 := n2_
   have HB := n3_
   clear n0_ n1_ n2_ n3_
   refine start_ (n := 19) (S := fun w' => w'.cell? ⟨gb606, 0, none⟩ = some (.int .i64 a0_0) ∧ w'.cell? ⟨gb606, 1, none⟩ = some (.int .i64 a0_1) ∧ w'.cell? ⟨gb606, 2, none⟩ = some (.slice A0_2 l0_2.length c0_2)) (ds := []) #[false, false, false, false, false, false, false, false, false, false, false, false, false, false, false, false, false, false, false] (by kernel_rfl) rfl rfl ⟨(blk_cell BK606.out 0).trans rfl, (blk_cell BK606.out 1).trans rfl, (blk_cell BK606.out 2).trans rfl⟩ (fun hHeld => ?_); refine with_tabW tenetlaw24_RingNormals.tab5 tenetlaw24_RingNormals.bits5 (fun HT_ HW_ => ?_)
   generalize w59.drew = w60 at HO611 HO615 BK606 HB hHeld ⊢
   refine take_ (i := 0) (N := some 20) (v := ?_) (a' := ?_) #[true, false, false, false, false, false, false, false, false, false, false, false, false, false, false, false, false, false, false] rfl rfl (take_ofW HT_.out HW_.out (by kernel_rfl)) (fun _ _ _ h => h) (Or.inl ⟨by rfl, ?_⟩) hHeld ?_ ?_
   rotate_left
   ·rintro w' ⟨s0, s1, s2⟩
    go_simp
    with_reducible rfl
   rotate_left
   ·simp only [Act.put, List.setIfInBounds_toArray, List.set_cons_zero, List.set_cons_succ, i64_w, i32_w]
    rfl
   refine take_ (i := 2) (N := some 22) (v := ?_) (a' := ?_) #[true, false, true, false, false, false, false, false, false, false, false, false, false, false, false, false, false, false, false] rfl rfl (take_ofW HT_.out HW_.out (by kernel_rfl)) (fun _ _ _ h => h) (Or.inl ⟨by rfl, ?_⟩) hHeld ?_ ?_
   rotate_left
   ·rintro w' ⟨s0, s1, s2⟩
    go_simp
    with_reducible rfl
   rotate_left
   ·simp only [Act.put, List.setIfInBounds_toArray, List.set_cons_zero, List.set_cons_succ, i64_w, i32_w]
    rfl
   refine one_ (i := 1) (N := some 21) #[true, true, true, false, false, false, false, false, false, false, false, false, false, false, false, false, false, false, false] rfl rfl (one_of HT_.out (by kernel_rfl)) (by decide) (fun K hK => ?_)
   refine goes_ Try.func29 (by kernel_rfl) rfl #[.agg #[.int .i64 a0_0, .int .i64 a0_1, .slice A0_2 l0_2.length c0_2]] (by rfl) rfl rfl (by (try simp only [List.map_toArray, List.map_cons, List.map_nil]); first | done | rfl | (simp only [List.length_drop, List.length_take]; rfl)) ?_
   with_reducible refine (ring_Valid.calls a0_0 a0_1 _ _ l0_2 t617 _ ?side1 ?side2 A11.out).mono ?_
   (case side1 => repeat (first | exact (Kd.C_below HR0_2.out HB.out) | (with_reducible refine Kd.C_alloc ?_ _) | (with_reducible refine Kd.C_drewN ?_ _) | (with_reducible refine Kd.C_drew ?_)))
   (case side2 => exact HC0_2.out)
   rintro e w61 ⟨rfl, hb⟩
   refine ⟨_, rfl, ?_⟩
   have n0_ := Aside0.mk (Kd.V_below (by (with_reducible repeat (first | apply Kd.V_alloc | apply Kd.V_drewN | apply Kd.V_drew)); exact HO611.out) hb)
   have n1_ := Aside0.mk (Kd.S_below (by (with_reducible repeat (first | apply Kd.S_alloc | apply Kd.S_drewN | apply Kd.S_drew)); exact HO615.out) hb)
   have n2_ := Aside0.mk (blk_below (g := gb606) (o := .cells #[.int .i64 a0_0, .int .i64 a0_1, .slice A0_2 l0_2.length c0_2] 27 (0, 0)) (by (with_reducible repeat (first | refine blk_drewN ?_ _ | refine blk_drew ?_ | refine blk_alloc ?_ _)); exact BK606.out) hb)
   have n3_ := Aside0.mk (below_step (by repeat (first | (with_reducible first | exact HB.out | apply below_alloc | apply pw_below_drewN | apply below_drew1 | refine below_set ?_ GE606.out) | exact HB.out)) hb)
   clear HO611
   clear HO615
   clear BK606
   clear HB
   have HO611 := n0_
   have HO615 := n1_
   have BK606 := n2_
   have HB := n3_
   clear n0_ n1_ n2_ n3_
   (try clear hb)
   (try clear hb2)
   (try clear hk)
   (try clear hi)
   refine hK.out _ _ ⟨(blk_cell BK606.out 0).trans rfl, (blk_cell BK606.out 1).trans rfl, (blk_cell BK606.out 2).trans rfl⟩ (fun hHeld => ?_)
   clear hK K
   refine norm_ (a' := ?_) ?_ ?_
   rotate_left
   ·show Act.put _ (some 21) _ = _
    simp only [Act.put, List.setIfInBounds_toArray, List.set_cons_zero, List.set_cons_succ, i64_w, i32_w]
    rfl
   refine one_ (i := 3) (N := some 23) #[true, true, true, true, false, false, false, false, false, false, false, false, false, false, false, false, false, false, false] rfl rfl (one_of HT_.out (by kernel_rfl)) (by decide) (fun K hK => ?_)
   refine goes_ Try.func30 (by kernel_rfl) rfl #[.agg #[.int .i64 a0_0, .int .i64 a0_1, .slice A0_2 l0_2.length c0_2]] (by rfl) rfl rfl (by (try simp only [List.map_toArray, List.map_cons, List.map_nil]); first | done | rfl | (simp only [List.length_drop, List.length_take]; rfl)) ?_
   with_reducible refine (tenetref24_Valid.calls k a0_0 a0_1 _ _ l0_2 t618 _ ?side1 ?side2 A12.out).mono ?_
   (case side1 => repeat (first | exact (Kd.C_below HR0_2.out HB.out) | (with_reducible refine Kd.C_alloc ?_ _) | (with_reducible refine Kd.C_drewN ?_ _) | (with_reducible refine Kd.C_drew ?_)))
   (case side2 => exact HC0_2.out)
   rintro e w62 ⟨rfl, hb⟩
   refine ⟨_, rfl, ?_⟩
   have n0_ := Aside0.mk (Kd.V_below (by (with_reducible repeat (first | apply Kd.V_alloc | apply Kd.V_drewN | apply Kd.V_drew)); exact HO611.out) hb)
   have n1_ := Aside0.mk (Kd.S_below (by (with_reducible repeat (first | apply Kd.S_alloc | apply Kd.S_drewN | apply Kd.S_drew)); exact HO615.out) hb)
   have n2_ := Aside0.mk (blk_below (g := gb606) (o := .cells #[.int .i64 a0_0, .int .i64 a0_1, .slice A0_2 l0_2.length c0_2] 27 (0, 0)) (by (with_reducible repeat (first | refine blk_drewN ?_ _ | refine blk_drew ?_ | refine blk_alloc ?_ _)); exact BK606.out) hb)
   have n3_ := Aside0.mk (below_step (by repeat (first | (with_reducible first | exact HB.out | apply below_alloc | apply pw_below_drewN | apply below_drew1 | refine below_set ?_ GE606.out) | exact HB.out)) hb)
   clear HO611
   clear HO615
   clear BK606
   clear HB
   have HO611 := n0_
   have HO615 := n1_
   have BK606 := n2_
   have HB := n3_
   clear n0_ n1_ n2_ n3_
   (try clear hb)
   (try clear hb2)
   (try clear hk)
   (try clear hi)
   refine hK.out _ _ ⟨(blk_cell BK606.out 0).trans rfl, (blk_cell BK606.out 1).trans rfl, (blk_cell BK606.out 2).trans rfl⟩ (fun hHeld => ?_)
   clear hK K
   refine norm_ (a' := ?_) ?_ ?_
   rotate_left
   ·show Act.put _ (some 23) _ = _
    simp only [Act.put, List.setIfInBounds_toArray, List.set_cons_zero, List.set_cons_succ, i64_w, i32_w]
    rfl
   refine pure_ (i := 4) (N := some 24) (v := ?_) (a' := ?_) #[true, true, true, true, true, false, false, false, false, false, false, false, false, false, false, false, false, false, false] rfl rfl (any_of HT_.out (by kernel_rfl)) (fun _ _ _ h => h) (Or.inl ⟨by rfl, ?_⟩) ?_ ?_
   rotate_left
   ·intro w'
    go_simp
    with_reducible rfl
   rotate_left
   ·simp only [Act.put, List.setIfInBounds_toArray, List.set_cons_zero, List.set_cons_succ, i64_w, i32_w]
    rfl
   refine pure_ (i := 5) (N := some 25) (v := ?_) (a' := ?_) #[true, true, true, true, true, true, false, false, false, false, false, false, false, false, false, false, false, false, false] rfl rfl (any_of HT_.out (by kernel_rfl)) (fun _ _ _ h => h) (Or.inl ⟨by rfl, ?_⟩) ?_ ?_
   rotate_left
   ·intro w'
    go_simp
    with_reducible rfl
   rotate_left
   ·simp only [Act.put, List.setIfInBounds_toArray, List.set_cons_zero, List.set_cons_succ, i64_w, i32_w]
    rfl
   refine pure_ (i := 6) (N := some 26) (v := undef) (a' := ?_) #[true, true, true, true, true, true, true, false, false, false, false, false, false, false, false, false, false, false, false] rfl rfl (any_of HT_.out (by kernel_rfl)) (fun _ _ _ h => h) (Or.inr ⟨by rfl, rfl⟩) ?_ ?_
   rotate_left
   ·simp only [Act.put, List.setIfInBounds_toArray, List.set_cons_zero, List.set_cons_succ, i64_w, i32_w]
    rfl
   refine pure_ (i := 7) (N := some 27) (v := undef) (a' := ?_) #[true, true, true, true, true, true, true, true, false, false, false, false, false, false, false, false, false, false, false] rfl rfl (any_of HT_.out (by kernel_rfl)) (fun _ _ _ h => h) (Or.inr ⟨by rfl, rfl⟩) ?_ ?_
   rotate_left
   ·simp only [Act.put, List.setIfInBounds_toArray, List.set_cons_zero, List.set_cons_succ, i64_w, i32_w]
    rfl
   refine pure_ (i := 8) (N := some 28) (v := undef) (a' := ?_) #[true, true, true, true, true, true, true, true, true, false, false, false, false, false, false, false, false, false, false] rfl rfl (any_of HT_.out (by kernel_rfl)) (fun _ _ _ h => h) (Or.inr ⟨by rfl, rfl⟩) ?_ ?_
   rotate_left
   ·simp only [Act.put, List.setIfInBounds_toArray, List.set_cons_zero, List.set_cons_succ, i64_w, i32_w]
    rfl
   refine pure_ (i := 9) (N := some 29) (v := ?_) (a' := ?_) #[true, true, true, true, true, true, true, true, true, true, false, false, false, false, false, false, false, false, false] rfl rfl (any_of HT_.out (by kernel_rfl)) (fun _ _ _ h => h) (Or.inl ⟨by rfl, ?_⟩) ?_ ?_
   rotate_left
   ·intro w'
    go_simp
    with_reducible rfl
   rotate_left
   ·simp only [Act.put, List.setIfInBounds_toArray, List.set_cons_zero, List.set_cons_succ, i64_w, i32_w]
    rfl
   refine pure_ (i := 10) (N := some 30) (v := ?_) (a' := ?_) #[true, true, true, true, true, true, true, true, true, true, true, false, false, false, false, false, false, false, false] rfl rfl (any_of HT_.out (by kernel_rfl)) (fun _ _ _ h => h) (Or.inl ⟨by rfl, ?_⟩) ?_ ?_
   rotate_left
   ·intro w'
    go_simp
    with_reducible rfl
   rotate_left
   ·simp only [Act.put, List.setIfInBounds_toArray, List.set_cons_zero, List.set_cons_succ, i64_w, i32_w]
    rfl
   refine pure_ (i := 11) (N := some 31) (v := undef) (a' := ?_) #[true, true, true, true, true, true, true, true, true, true, true, true, false, false, false, false, false, false, false] rfl rfl (any_of HT_.out (by kernel_rfl)) (fun _ _ _ h => h) (Or.inr ⟨by rfl, rfl⟩) ?_ ?_
   rotate_left
   ·simp only [Act.put, List.setIfInBounds_toArray, List.set_cons_zero, List.set_cons_succ, i64_w, i32_w]
    rfl
   refine pure_ (i := 12) (N := some 32) (v := undef) (a' := ?_) #[true, true, true, true, true, true, true, true, true, true, true, true, true, false, false, false, false, false, false] rfl rfl (any_of HT_.out (by kernel_rfl)) (fun _ _ _ h => h) (Or.inr ⟨by rfl, rfl⟩) ?_ ?_
   rotate_left
   ·simp only [Act.put, List.setIfInBounds_toArray, List.set_cons_zero, List.set_cons_succ, i64_w, i32_w]
    rfl
   refine pure_ (i := 13) (N := some 33) (v := undef) (a' := ?_) #[true, true, true, true, true, true, true, true, true, true, true, true, true, true, false, false, false, false, false] rfl rfl (any_of HT_.out (by kernel_rfl)) (fun _ _ _ h => h) (Or.inr ⟨by rfl, rfl⟩) ?_ ?_
   rotate_left
   ·simp only [Act.put, List.setIfInBounds_toArray, List.set_cons_zero, List.set_cons_succ, i64_w, i32_w]
    rfl
   refine pure_ (i := 14) (N := some 34) (v := ?_) (a' := ?_) #[true, true, true, true, true, true, true, true, true, true, true, true, true, true, true, false, false, false, false] rfl rfl (any_of HT_.out (by kernel_rfl)) (fun _ _ _ h => h) (Or.inl ⟨by rfl, ?_⟩) ?_ ?_
   rotate_left
   ·intro w'
    go_simp
    with_reducible rfl
   rotate_left
   ·simp only [Act.put, List.setIfInBounds_toArray, List.set_cons_zero, List.set_cons_succ, i64_w, i32_w]
    rfl
   refine pure_ (i := 15) (N := some 35) (v := ?_) (a' := ?_) #[true, true, true, true, true, true, true, true, true, true, true, true, true, true, true, true, false, false, false] rfl rfl (any_of HT_.out (by kernel_rfl)) (fun _ _ _ h => h) (Or.inl ⟨by rfl, ?_⟩) ?_ ?_
   rotate_left
   ·intro w'
    go_simp
    with_reducible rfl
   rotate_left
   ·simp only [Act.put, List.setIfInBounds_toArray, List.set_cons_zero, List.set_cons_succ, i64_w, i32_w]
    rfl
   refine pure_ (i := 16) (N := some 36) (v := undef) (a' := ?_) #[true, true, true, true, true, true, true, true, true, true, true, true, true, true, true, true, true, false, false] rfl rfl (any_of HT_.out (by kernel_rfl)) (fun _ _ _ h => h) (Or.inr ⟨by rfl, rfl⟩) ?_ ?_
   rotate_left
   ·simp only [Act.put, List.setIfInBounds_toArray, List.set_cons_zero, List.set_cons_succ, i64_w, i32_w]
    rfl
   refine pure_ (i := 17) (N := some 37) (v := ?_) (a' := ?_) #[true, true, true, true, true, true, true, true, true, true, true, true, true, true, true, true, true, true, false] rfl rfl (any_of HT_.out (by kernel_rfl)) (fun _ _ _ h => h) (Or.inl ⟨by rfl, ?_⟩) ?_ ?_
   rotate_left
   ·intro w'
    go_simp
    with_reducible rfl
   rotate_left
   ·simp only [Act.put, List.setIfInBounds_toArray, List.set_cons_zero, List.set_cons_succ, i64_w, i32_w]
    rfl
   refine pure_ (i := 18) (N := some 2) (v := ?_) (a' := ?_) #[true, true, true, true, true, true, true, true, true, true, true, true, true, true, true, true, true, true, true] rfl rfl (any_of HT_.out (by kernel_rfl)) (fun _ _ _ h => h) (Or.inl ⟨by rfl, ?_⟩) ?_ ?_
   rotate_left
   ·intro w'
    go_simp
    with_reducible rfl
   rotate_left
   ·simp only [Act.put, List.setIfInBounds_toArray, List.set_cons_zero, List.set_cons_succ, i64_w, i32_w]
    rfl
   refine done_ (done_of HT_.out (by kernel_rfl)) ?_
   try go_wp2
   go_ret
   exact ⟨by first | rfl | (simp [errW_none, errW_some] <;> rfl) | (simp [*, errW_none, errW_some] <;> rfl), by repeat (first | (with_reducible first | exact HB.out | apply below_alloc | apply pw_below_drewN | apply below_drew1 | refine below_set ?_ GE606.out) | exact HB.out)⟩
end Go.Proofs.Ythkclagcbjnckaa.Pa

namespace Go.Proofs.Ythkclagcbjnckaa.Pa
open Go.RowKit Go.Proofs.YthkclagcbjnckaaW.PrintWords Go.Proofs.YthkclagcbjnckaaW.PrintLast Go.Proofs.YthkclagcbjnckaaW.PrintMore
set_option linter.unusedVariables false
theorem IsNF.small {x : S27} {l : List S60} (h : IsNF x l) : l.length ≤ 1000000000 ∧ ∀ m ∈ l, m.f1.length ≤ 1000000000 :=
  ⟨by have := h.ref.len; omega, fun m hm => by rw [(h.ref.at_ hm).1]; omega⟩
theorem NormAns.small {x : S27} {l : List S60} {er : Int} (h : NormAns x l er) : l.length ≤ 1000000000 ∧ ∀ m ∈ l, m.f1.length ≤ 1000000000 := by
  by_cases h0 : er = 0
  · exact (h.2.1 h0).small
  · rw [h.2.2 h0]; simp
theorem RingNormals_pure (x : S27) : ∃ k, tenetlaw24_RingNormals.f k x.f0 x.f1 x.f2 = some true := by
  refine Ev.rounds (g := fun k => tenetlaw24_RingNormals.f k x.f0 x.f1 x.f2) ?_
  refine Ev.congr (f := fun k => (tenetlaw24_big.f k x.f0 x.f1 x.f2).bind fun t607 => (if t607 = true then ((tenetlaw24_awake.f).bind fun t608 => (some t608)) else ((ring_Normal.f x.f0 x.f1 x.f2).bind fun bt609 => ((tenetref24_Normal.f k x.f0 x.f1 x.f2).bind fun bt613 => ((ring_Valid.f x.f0 x.f1 x.f2).bind fun t617 => ((tenetref24_Valid.f k x.f0 x.f1 x.f2).bind fun t618 => (if (t617 == t618) = true then (if bt609.2 = bt613.2 then ((tenetref24_EqMonos.f k bt609.1 bt613.1).bind fun t619 => (if t619 = true then ((tenetlaw24_awake.f).bind fun t620 => (some t620)) else (some false))) else (some false)) else (some false)))))))) (fun k => rfl) ?_
  refine Ev.bind (big_ev x) ?_
  by_cases hb : nodes x > 400
  · simp only [decide_eq_true hb, if_true]; exact Ev.now _
  · simp only [decide_eq_false hb, Bool.false_eq_true, if_false]
    have hn : nodes x ≤ 1152921504606846976 := by omega
    have h1 : ring_Normal.f x.f0 x.f1 x.f2 = some (normA x) := by cases x; exact if_pos hn
    have h2 : ring_Valid.f x.f0 x.f1 x.f2 = some (validB x) := by cases x; exact if_pos hn
    obtain ⟨l, er, hev, hans⟩ := refNormal_ev x
    have hna := normA_of hans
    simp only [h1, h2, Option.bind_some]
    refine Ev.bind hev (Ev.bind (validRef_ev x) ?_)
    simp only [beq_self_eq_true, if_true]
    rw [hna]
    simp only [if_true]
    refine Ev.bind (eqMonos_ev l l hans.small.1 hans.small.2) ?_
    simp only [decide_true, if_true]
    exact Ev.now _
theorem RingNormals_walk (x : S27) (A : Option Addr) (c : Nat) (w : World) (hr : k27.C w A x.f2.length x.f2) (hc : x.f2.length ≤ c) :
    Calls Try.prog 7 #[.agg #[.int .i64 x.f0, .int .i64 x.f1, .slice A x.f2.length c]] w fun e w' => e = .returned (.bool true) ∧ Below w.heap.size w w' := by
  obtain ⟨k, hk⟩ := RingNormals_pure x
  exact tenetlaw24_RingNormals.calls k x.f0 x.f1 A c x.f2 true w hr hc hk
end Go.Proofs.Ythkclagcbjnckaa.Pa

namespace Go.Proofs.Ythkclagcbjnckaa.Pa
open Go.RowKit Go.ChangeShapes Go.WideShapes Go.Deep Go.Proofs.YthkclagcbjnckaaW.PrintWords Go.Proofs.YthkclagcbjnckaaW.PrintLast Go.Proofs.YthkclagcbjnckaaW.PrintMore
section
variable {H : Type} {enc : TypeId × Value → H} {w : World} {base : Nat} {spare : Nat → Bool} {held : Bool}
theorem cells3 : Try.prog.cellsOf 3 = 1 := by kernel_rfl
end
end Go.Proofs.Ythkclagcbjnckaa.Pa

namespace Go.Proofs.Ythkclagcbjnckaa.Pa
open Go.RowKit Go.ChangeShapes Go.WideShapes Go.Deep Go.Proofs.YthkclagcbjnckaaW.PrintWords Go.Proofs.YthkclagcbjnckaaW.PrintLast Go.Proofs.YthkclagcbjnckaaW.PrintMore
set_option linter.unusedVariables false
section
variable {H : Type} {enc : TypeId × Value → H} {w : World} {base : Nat} {spare : Nat → Bool} {held : Bool}
theorem cells27 : Try.prog.cellsOf 27 = 3 := by kernel_rfl
theorem cells25 : Try.prog.cellsOf 25 = 1 := by kernel_rfl
set_option maxRecDepth 100000 in
theorem open_tree27 : ∀ fuel : Nat,
    (∀ (cs : List Value) (x : DataW H × List MemPlace), DataW.trod enc Try.prog w base spare held fuel 27 cs = some x → ∃ y : S27, k27.K w y cs) ∧
    (∀ (cs : List Value) (x : DataW H × List MemPlace), DataW.trod enc Try.prog w base spare held fuel 25 cs = some x → ∃ A c, ∃ l : List S27, cs = [.slice A l.length c] ∧ l.length ≤ c ∧ k27.C w A l.length l) := by
  intro fuel
  induction fuel using Nat.strongRecOn with
  | _ fuel ih =>
  constructor
  · intro cs x h
    obtain ⟨xs, n, hn, _, hlen, hxl, hf⟩ := DataW.trod_struct Try.underlying27 h
    rw [cells27] at hlen
    match cs, hlen with
    | [v0, v1, v2], _ =>
      match xs, hxl with
      | [y0, y1, y2], _ =>
        have g0 := hf 0 _ rfl
        have g1 := hf 1 _ rfl
        have g2 := hf 2 _ rfl
        simp [cells3, cells25] at g0 g1 g2
        obtain ⟨z0, hz0, _, _⟩ := DataW.trod_int Try.underlying3 g0
        obtain ⟨z1, hz1, _, _⟩ := DataW.trod_int Try.underlying3 g1
        obtain ⟨A, c, l, hl1, hl2, hl3⟩ := (ih n (by omega)).2 _ _ g2
        injection hz0 with hz0 _
        injection hz1 with hz1 _
        injection hl1 with hl1 _
        rw [hz0, hz1, hl1]
        exact ⟨⟨z0, z1, l⟩, k27_mk w ⟨z0, z1, l⟩ hl2 hl3⟩
  · intro cs x h
    rcases DataW.trod_slice Try.underlying25 h with ⟨rfl, _⟩ | ⟨a, len, cap, elems, rest, n, hn, rfl, _, _, hl, hm, hel, hall, _, _⟩
    · exact ⟨none, 0, [], rfl, Nat.le_refl _, ⟨rfl, by simp, fun h => absurd h (Nat.lt_irrefl _)⟩⟩
    · have each : ∀ i, i < len → ∃ q : S27 × List Value, q.2.length = 3 ∧ k27.K w q.1 q.2 ∧ ∀ j u, q.2[j]? = some u → w.cell? (a.add (i * 3 + j)) = some u := by
        intro i hi
        have h1 := hall i hi
        rw [cells27, List.getElem?_eq_getElem (by omega)] at h1
        obtain ⟨cs', h2, h3⟩ := Option.bind_eq_some_iff.1 h1
        obtain ⟨_, hl3, hcell⟩ := World.cells?_some h2
        obtain ⟨y, hy⟩ := (ih n (by omega)).1 _ _ h3
        refine ⟨(y, cs'), hl3, hy, fun j u hu => ?_⟩
        have hj : j < 3 := by have h4 := (List.getElem?_eq_some_iff.1 hu).1; simp only at h4; omega
        have := hcell j hj
        rw [Go.Deep.add_add] at this
        rw [this]; exact hu
      haveI : Inhabited (S27 × List Value) := ⟨(z27, [])⟩
      obtain ⟨q, hq⟩ := choose_lt each
      have hl2 : ((List.range len).map (fun i => (q i).1)).length = len := by simp
      refine ⟨some a, cap, (List.range len).map (fun i => (q i).1), by rw [hl2], by omega, ⟨rfl, by have : maxLen ≤ 9223372036854775807 := (by decide); omega, fun _ => ⟨a, rfl, fun j p hj => ?_⟩⟩⟩
      have hj1 : j < len := by rw [← hl2]; exact (List.getElem?_eq_some_iff.1 hj).1
      rw [List.getElem?_map, List.getElem?_range hj1] at hj
      injection hj with hj
      subst hj
      exact ⟨(q j).2, (hq j hj1).1, (hq j hj1).2.1, (hq j hj1).2.2⟩
end
end Go.Proofs.Ythkclagcbjnckaa.Pa

