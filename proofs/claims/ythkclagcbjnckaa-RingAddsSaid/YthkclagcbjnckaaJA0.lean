import Derived.Maps.RangeRun
import Derived.Maps.OwnSet
import Derived.Below
import Derived.Deep.Draws
import Derived.Deep.AppendLies
import Derived.Maps.AppendAt
import Derived.OwnWalk
import Derived.Laws.BytesArg
import Derived.Laws.MakeOwn
import Derived.Laws.OwnMore
import Derived.Deep.OwnRows
import Derived.Tactics
import Derived.Lib.ConvBytes
import Derived.Laws.Slices
import Derived.WalkKit
import Derived.KernelRfl
import Derived.RowKit3
import Derived.Deep.LoopGhost
import Derived.Deep.QuietTactic
import Derived.BigQuiet
import Derived.WideLaws
import Derived.Deep.DeepCutAuto
import Derived.Deep.CutBlock
import Derived.Deep.RegionHeld3
import Derived.Laws.Rows
import Derived.Lib.AppendStr
import Derived.ArgAppend
import Derived.Laws.IdiomCopy
import Derived.RowKit
import Derived.OrdersHeld
import Derived.Laws.BitsLemmas
import Derived.Laws.StructEq
import Derived.Test.YthkclagcbjnckaaProg
import Derived.DeepKeys4
import Derived.WideKeyPair
import Derived.Maps.Keyed
import Derived.Handy
import Derived.BigRegion
import Derived.Carry
import Derived.Maps.RangeWalk
import Derived.Lib.Mul64
import Derived.Laws.Bits64b
import Derived.IntWalk
import Derived.Shelf.Abstract
set_option linter.unusedVariables false
set_option linter.unusedSimpArgs false

namespace Go.Proofs.RawMap
open Go.RowKit Go.ChangeMaps Go.MapKept
structure KeyOk (P : Program) (k : TypeId) (V : Value → Prop) : Prop where
  check : ∀ (w : World) (em : Bool) {v : Value}, V v → (Instr.checkKey em 10000 k v).run P w = .ok () w
  find : ∀ (w : World) {x : Value}, V x → ∀ es : List MapEntry, (∀ e ∈ es, V e.key) →
    ((Instr.findKey k x es).run P w = .ok none w ∧ ∀ e ∈ es, e.key ≠ x) ∨ ∃ j e, (Instr.findKey k x es).run P w = .ok (some (j, e.val)) w ∧ es[j]? = some e ∧ e.key = x
  stays : ∀ (w : World) {v : Value}, V v → (Instr.keyThatStays v v).run P w = .ok v w
def pairs (es : Array MapEntry) : List (Value × Value) := es.toList.map fun e => (e.key, e.val)
def MapIs (w : World) (V : Value → Prop) (b : Nat) (l : List (Value × Value)) : Prop :=
  ∃ es clock, w.heap[b]? = some (.map es clock) ∧ Stamped es clock ∧ (∀ e ∈ es.toList, V e.key) ∧ pairs es = l
section
variable {P : Program} {k e t : TypeId} {V : Value → Prop} {w w1 : World} {b : Nat} {l l1 l2 : List (Value × Value)} {key v val z : Value}
theorem MapIs.made (w : World) (V : Value → Prop) : MapIs (w.alloc (.map #[] 0)) V w.heap.size [] :=
  ⟨#[], 0, (MapKept.heap_alloc w _).1, stamped_empty 0, by simp, rfl⟩
theorem MapIs.lt (h : MapIs w V b l) : b < w.heap.size := by
  obtain ⟨es, clock, hb, _⟩ := h
  exact (Array.getElem?_eq_some_iff.1 hb).1
theorem MapIs.kept {row : Option Nat} (h : MapIs w V b l) (hg : w.grownBy w1 row) (hne : some b ≠ row) : MapIs w1 V b l := by
  have hlt := h.lt
  obtain ⟨es, clock, hb, r⟩ := h
  exact ⟨es, clock, (hg.block b hlt hne).trans hb, r⟩
theorem MapIs.nodup (h : MapIs w V b l) : l.Pairwise (fun p q => p.1 ≠ q.1) := by
  obtain ⟨es, clock, _, hs, _, rfl⟩ := h
  rw [pairs, List.pairwise_map]
  exact ((stamped_iff es clock).1 hs).2.2
theorem uniq (h : l.Pairwise (fun p q => p.1 ≠ q.1)) {p q : Value × Value} (hp : p ∈ l) (hq : q ∈ l) (he : p.1 = q.1) : p = q := by
  induction h with
  | nil => cases hp
  | cons h1 h2 ih =>
    rcases List.mem_cons.1 hp with ep | hp1
    · rcases List.mem_cons.1 hq with eq | hq1
      · rw [ep, eq]
      · exact absurd (ep ▸ he) (h1 _ hq1)
    · rcases List.mem_cons.1 hq with eq | hq1
      · exact absurd (eq ▸ he).symm (h1 _ hp1)
      · exact ih hp1 hq1
theorem find_in {es : Array MapEntry} {clock : Nat} (K : KeyOk P k V) (w : World) (hs : Stamped es clock) (hv : ∀ e ∈ es.toList, V e.key) (hk : V key) (hm : (key, v) ∈ pairs es) :
    ∃ j e0, (Instr.findKey k key es.toList).run P w = .ok (some (j, v)) w ∧ es.toList[j]? = some e0 ∧ e0.key = key ∧ e0.val = v := by
  obtain ⟨x, hx, he⟩ := List.mem_map.1 hm
  have hn := ((stamped_iff es clock).1 hs).2.2
  rcases K.find w hk es.toList hv with ⟨_, h2⟩ | ⟨j, e0, h1, h2, h3⟩
  · exact absurd (congrArg Prod.fst he) (h2 x hx)
  · have h4 : (e0.key, e0.val) ∈ pairs es := List.mem_map.2 ⟨e0, List.mem_of_getElem? h2, rfl⟩
    have hp : (pairs es).Pairwise (fun p q => p.1 ≠ q.1) := by rw [pairs, List.pairwise_map]; exact hn
    have h5 := uniq hp h4 hm h3
    have h6 : e0.val = v := congrArg Prod.snd h5
    exact ⟨j, e0, by rw [h1, h6], h2, h3, h6⟩
theorem find_out {es : Array MapEntry} (K : KeyOk P k V) (w : World) (hv : ∀ e ∈ es.toList, V e.key) (hk : V key) (hm : ∀ p ∈ pairs es, p.1 ≠ key) :
    (Instr.findKey k key es.toList).run P w = .ok none w := by
  rcases K.find w hk es.toList hv with ⟨h1, _⟩ | ⟨j, e0, _, h2, h3⟩
  · exact h1
  · exact absurd h3 (hm _ (List.mem_map.2 ⟨e0, List.mem_of_getElem? h2, rfl⟩))
theorem MapIs.look_in (h : MapIs w V b l) (K : KeyOk P k V) (ht : P.underlying t = some (.map k e)) (hk : V key) (hm : (key, v) ∈ l) (c : Bool) :
    (Instr.lookup t (.map (some b)) key c).run P w = .ok (if c then .tuple #[v, .bool true] else v) w := by
  obtain ⟨es, clock, hb, hs, hv, rfl⟩ := h
  obtain ⟨j, e0, h1, _, _, _⟩ := find_in K w hs hv hk hm
  simp [Instr.lookup, run_underlying ht, MapKept.run_getObj_map hb, K.check w _ hk, h1, Result.andThen]
theorem MapIs.look_out (h : MapIs w V b l) (K : KeyOk P k V) (ht : P.underlying t = some (.map k e)) (hz : (zeroValue e).run P w = .ok z w) (hk : V key) (hm : ∀ p ∈ l, p.1 ≠ key) (c : Bool) :
    (Instr.lookup t (.map (some b)) key c).run P w = .ok (if c then .tuple #[z, .bool false] else z) w := by
  obtain ⟨es, clock, hb, hs, hv, rfl⟩ := h
  simp [Instr.lookup, run_underlying ht, MapKept.run_getObj_map hb, K.check w _ hk, find_out K w hv hk hm, hz, Result.andThen]
theorem MapIs.len (h : MapIs w V b l) (ht : P.underlying t = some (.map k e)) (ty : TypeId) : (Builtin.len_ #[t] ty #[.map (some b)]).run P w = .ok (.int .i64 l.length) w := by
  obtain ⟨es, clock, hb, hs, hv, rfl⟩ := h
  simp [Builtin.len_, run_underlying ht, MapKept.run_getObj_map hb, pairs, goInt]
theorem grown_setBlock (w : World) (b : Nat) (o : Obj) {o0 : Obj} (_hb : w.heap[b]? = some o0) : w.grownBy (setBlock w b o) (some b) :=
  ⟨rfl, rfl, rfl, by simp [setBlock], fun i _ hi => by simp only [setBlock, Array.getElem?_setIfInBounds]; rw [if_neg (fun e => hi (by rw [e]))]⟩
theorem pairs_set {es : Array MapEntry} {j : Nat} {e0 : MapEntry} (h : es.toList[j]? = some e0) (f : MapEntry → MapEntry) (hf : (f e0).key = e0.key) :
    pairs (es.modify j f) = (pairs es).take j ++ (e0.key, (f e0).val) :: (pairs es).drop (j + 1) ∧ pairs es = (pairs es).take j ++ (e0.key, e0.val) :: (pairs es).drop (j + 1) := by
  have hjl : j < es.toList.length := (List.getElem?_eq_some_iff.1 h).1
  have hl : (es.modify j f).toList = es.toList.set j (f e0) := by rw [Array.toList_modify, modify_eq_set _ _ _ _ h]
  have hp : (pairs es)[j]? = some (e0.key, e0.val) := by simp only [pairs, List.getElem?_map, h, Option.map_some]
  have hjp : j < (pairs es).length := (List.getElem?_eq_some_iff.1 hp).1
  constructor
  · rw [pairs, hl, List.map_set]
    show (pairs es).set j _ = _
    rw [List.set_eq_take_append_cons_drop, if_pos hjp, hf]
  · have := List.take_append_drop j (pairs es)
    rw [List.drop_eq_getElem_cons hjp] at this
    rw [(List.getElem?_eq_some_iff.1 hp).2] at this
    exact this.symm
theorem split_uniq (h : l.Pairwise (fun p q => p.1 ≠ q.1)) {a1 a2 b1 b2 : List (Value × Value)} {x y : Value} (ha : l = a1 ++ (key, x) :: a2) (hb : l = b1 ++ (key, y) :: b2) : a1 = b1 ∧ x = y ∧ a2 = b2 := by
  induction l generalizing a1 b1 with
  | nil => cases a1 <;> cases ha
  | cons p r ih =>
    obtain ⟨h1, h2⟩ := List.pairwise_cons.1 h
    cases a1 with
    | nil =>
      injection ha with ha1 ha2
      cases b1 with
      | nil =>
        injection hb with hb1 hb2
        rw [ha1] at hb1
        injection hb1 with _ hb1
        exact ⟨rfl, hb1, ha2.symm.trans hb2⟩
      | cons q b1 =>
        injection hb with hb1 hb2
        exact absurd (by rw [ha1]) (h1 (key, y) (by rw [hb2]; simp))
    | cons q a1 =>
      injection ha with ha1 ha2
      cases b1 with
      | nil =>
        injection hb with hb1 hb2
        exact absurd (by rw [hb1]) (h1 (key, x) (by rw [ha2]; simp))
      | cons q' b1 =>
        injection hb with hb1 hb2
        obtain ⟨e1, e2, e3⟩ := ih h2 ha2 hb2
        exact ⟨by rw [e1, ← ha1, ← hb1], e2, e3⟩
theorem MapIs.nodup_pairs {es : Array MapEntry} {clock : Nat} (hs : Stamped es clock) : (pairs es).Pairwise (fun p q => p.1 ≠ q.1) := by
  rw [pairs, List.pairwise_map]
  exact ((stamped_iff es clock).1 hs).2.2
theorem mem_modify {es : Array MapEntry} {j : Nat} {f : MapEntry → MapEntry} {x : MapEntry} {e0 : MapEntry} (h : es.toList[j]? = some e0) (hx : x ∈ (es.modify j f).toList) : x = f e0 ∨ x ∈ es.toList := by
  rw [Array.toList_modify, modify_eq_set _ _ _ _ h] at hx
  rcases List.mem_or_eq_of_mem_set hx with hx | hx
  · exact .inr hx
  · exact .inl hx
theorem MapIs.put_out (h : MapIs w V b l) (K : KeyOk P k V) (ht : P.underlying t = some (.map k e)) (hk : V key) (hm : ∀ p ∈ l, p.1 ≠ key) (val : Value) :
    ∃ w', (Instr.mapUpdate t (.map (some b)) key val).run P w = .ok () w' ∧ MapIs w' V b (l ++ [(key, val)]) ∧ w.grownBy w' (some b) := by
  obtain ⟨es, clock, hb, hs, hv, rfl⟩ := h
  have h1 := find_out K w hv hk hm
  refine ⟨setBlock w b (.map (es.push ⟨key, val, clock⟩) (clock + 1)), ?_, ⟨_, _, heap_setBlock_same hb _, stamped_push hs (fun x hx => hm _ (List.mem_map.2 ⟨x, hx, rfl⟩)), fun x hx => ?_, by simp [pairs]⟩, grown_setBlock w b _ hb⟩
  · simp [Instr.mapUpdate, run_underlying ht, MapKept.run_getObj_map hb, K.check w false hk, h1, MapKept.run_setObj_map _ hb, Result.andThen, setBlock]
  · simp only [Array.toList_push, List.mem_append, List.mem_singleton] at hx
    rcases hx with hx | rfl
    · exact hv x hx
    · exact hk
theorem MapIs.entry_in (h : MapIs w V b l) (K : KeyOk P k V) (ht : P.underlying t = some (.map k e)) (hk : V key) (hl : l = l1 ++ (key, v) :: l2) :
    ∃ (st : Int) (w1 : World), (Instr.mapEntry t (.map (some b)) key).run P w = .ok (.tuple #[v, .int .i64 st]) w1 ∧ MapIs w1 V b l ∧ w.grownBy w1 (some b) ∧
      ∀ (val : Value), ∃ w2, (Instr.entryStore t (.map (some b)) (.int .i64 st) val).run P w1 = .ok () w2 ∧ MapIs w2 V b (l1 ++ (key, val) :: l2) ∧ w1.grownBy w2 (some b) := by
  obtain ⟨es, clock, hb, hs, hv, rfl⟩ := h
  obtain ⟨j, e0, h1, h2, h3, h4⟩ := find_in K w hs hv hk (show (key, v) ∈ pairs es by rw [hl]; simp)
  have hj : es[j]? = some e0 := by simpa using h2
  have hjl : j < es.toList.length := (List.getElem?_eq_some_iff.1 h2).1
  obtain ⟨q1, q2⟩ := pairs_set h2 (fun e => { e with key := key }) h3.symm
  rw [h3] at q1 q2
  obtain ⟨r1, r2, r3⟩ := split_uniq (MapIs.nodup_pairs hs) hl q2
  have hs1 : Stamped (es.modify j fun e => { e with key := key }) clock := stamped_modify hs _ _ (fun _ _ => rfl) (fun e' _ he' => by rw [hj] at he'; cases he'; exact h3.symm)
  have hv1 : ∀ x ∈ (es.modify j fun e => { e with key := key }).toList, V x.key := fun x hx => by
    rcases mem_modify h2 hx with rfl | hx
    · exact hk
    · exact hv x hx
  have hl1 : (es.modify j fun e => { e with key := key }).toList[j]? = some { e0 with key := key } := by
    rw [Array.toList_modify, modify_eq_set _ _ _ _ h2, List.getElem?_set_self hjl]
  have hb1 := heap_setBlock_same hb (.map (es.modify j fun e => { e with key := key }) clock)
  have hfi : (es.modify j fun e => { e with key := key }).findIdx? (fun e => (e.born : Int) == (e0.born : Int)) = some j := by
    generalize es.modify j (fun e => { e with key := key }) = es1 at hs1 hl1
    have hlt : j < es1.size := by have := (List.getElem?_eq_some_iff.1 hl1).1; simpa using this
    rw [Array.findIdx?_eq_some_iff_getElem]
    have ej : es1[j] = { e0 with key := key } := by
      have := (List.getElem?_eq_some_iff.1 hl1).2
      simpa using this
    refine ⟨hlt, by rw [ej]; simp, fun i hi => ?_⟩
    have hn := ((stamped_iff es1 clock).1 hs1).2.1
    have hne : es1[i].born ≠ es1[j].born := fun e1 => by
      have h5 := List.pairwise_iff_getElem.1 (List.pairwise_map.1 hn) i j (by simp; omega) (by simpa using hlt) hi
      exact h5 (by simpa using e1)
    rw [ej] at hne
    simp only [beq_iff_eq, ne_eq]
    intro e1
    exact hne (Int.natCast_inj.1 e1)
  refine ⟨(e0.born : Int), setBlock w b (.map (es.modify j fun e => { e with key := key }) clock), ?_, ⟨_, clock, hb1, hs1, hv1, by rw [q1]; simp only; rw [← q2]⟩, grown_setBlock w b _ hb, fun val => ?_⟩
  · simp [Instr.mapEntry, run_underlying ht, MapKept.run_getObj_map hb, K.check w false hk, h1, hj, h3, K.stays w hk, MapKept.run_setObj_map _ hb, Result.andThen, setBlock, goInt]
  · generalize es.modify j (fun e => { e with key := key }) = es1 at *
    obtain ⟨s1, s2⟩ := pairs_set hl1 (fun e => { e with val := val }) rfl
    refine ⟨setBlock (setBlock w b (.map es1 clock)) b (.map (es1.modify j fun e => { e with val := val }) clock), ?_, ⟨_, clock, heap_setBlock_same hb1 _, stamped_modify hs1 _ _ (fun _ _ => rfl) (fun e' _ _ => rfl), fun x hx => ?_, ?_⟩, grown_setBlock _ b _ hb1⟩
    · simp [Instr.entryStore, MapKept.run_getObj_map hb1, asInt, asIntOf, hfi, MapKept.run_setObj_map _ hb1, Result.andThen]
      rfl
    · rcases mem_modify hl1 hx with rfl | hx
      · exact hk
      · exact hv1 x hx
    · rw [s1]
      have e1 : (pairs es1).take j = (pairs es).take j ∧ (pairs es1).drop (j + 1) = (pairs es).drop (j + 1) := by
        have hp1 : j < (pairs es).length := by simpa [pairs] using hjl
        have hlen : ((pairs es).take j).length = j := by rw [List.length_take]; omega
        constructor
        · rw [q1, List.take_left' hlen]
        · rw [q1, show ((pairs es).take j ++ (key, e0.val) :: (pairs es).drop (j + 1)) = ((pairs es).take j ++ [(key, e0.val)]) ++ (pairs es).drop (j + 1) by simp, List.drop_left' (by simp [hlen])]
      rw [e1.1, e1.2, ← r1, ← r3]
theorem MapIs.entry_out (h : MapIs w V b l) (K : KeyOk P k V) (ht : P.underlying t = some (.map k e)) (hz : ∀ w, (zeroValue e).run P w = .ok z w) (hk : V key) (hm : ∀ p ∈ l, p.1 ≠ key) :
    ∃ (st : Int) (w1 : World), (Instr.mapEntry t (.map (some b)) key).run P w = .ok (.tuple #[z, .int .i64 st]) w1 ∧ MapIs w1 V b (l ++ [(key, z)]) ∧ w.grownBy w1 (some b) ∧
      ∀ (val : Value), ∃ w2, (Instr.entryStore t (.map (some b)) (.int .i64 st) val).run P w1 = .ok () w2 ∧ MapIs w2 V b (l ++ [(key, val)]) ∧ w1.grownBy w2 (some b) := by
  obtain ⟨es, clock, hb, hs, hv, rfl⟩ := h
  have h1 := find_out K w hv hk hm
  have hs1 := stamped_push hs (key := key) (val := z) (fun x hx => hm _ (List.mem_map.2 ⟨x, hx, rfl⟩))
  have hv1 : ∀ x ∈ (es.push ⟨key, z, clock⟩).toList, V x.key := fun x hx => by
    simp only [Array.toList_push, List.mem_append, List.mem_singleton] at hx
    rcases hx with hx | rfl
    · exact hv x hx
    · exact hk
  have hb1 := heap_setBlock_same hb (.map (es.push ⟨key, z, clock⟩) (clock + 1))
  have hl1 : (es.push ⟨key, z, clock⟩).toList[es.size]? = some ⟨key, z, clock⟩ := by simp
  have hfi : (es.push ⟨key, z, clock⟩).findIdx? (fun e => (e.born : Int) == (clock : Int)) = some es.size := by
    rw [Array.findIdx?_eq_some_iff_getElem]
    refine ⟨by simp, by simp, fun i hi => ?_⟩
    have h2 := ((stamped_iff es clock).1 hs).1 es[i] (by simp)
    rw [Array.getElem_push_lt hi]
    simp only [beq_iff_eq, ne_eq]
    omega
  refine ⟨(clock : Int), setBlock w b (.map (es.push ⟨key, z, clock⟩) (clock + 1)), ?_, ⟨_, _, hb1, hs1, hv1, by simp [pairs]⟩, grown_setBlock w b _ hb, fun val => ?_⟩
  · simp [Instr.mapEntry, run_underlying ht, MapKept.run_getObj_map hb, K.check w false hk, h1, hz, MapKept.run_setObj_map _ hb, Result.andThen, setBlock, goInt]
  · obtain ⟨s1, s2⟩ := pairs_set hl1 (fun e => { e with val := val }) rfl
    refine ⟨setBlock (setBlock w b (.map (es.push ⟨key, z, clock⟩) (clock + 1))) b (.map ((es.push ⟨key, z, clock⟩).modify es.size fun e => { e with val := val }) (clock + 1)), ?_, ⟨_, _, heap_setBlock_same hb1 _, stamped_modify hs1 _ _ (fun _ _ => rfl) (fun e' _ _ => rfl), fun x hx => ?_, ?_⟩, grown_setBlock _ b _ hb1⟩
    · simp [Instr.entryStore, MapKept.run_getObj_map hb1, asInt, asIntOf, hfi, MapKept.run_setObj_map _ hb1, Result.andThen]
      rfl
    · rcases mem_modify hl1 hx with rfl | hx
      · exact hk
      · exact hv1 x hx
    · rw [s1]
      simp [pairs]
def Ranges (w : World) (V : Value → Prop) (b r : Nat) (l left : List (Value × Value)) : Prop :=
  ∃ es clock since seen c0, w.heap[b]? = some (.map es clock) ∧ Stamped es clock ∧ (∀ e ∈ es.toList, V e.key) ∧ pairs es = l ∧
    w.heap[r]? = some (.mapIter (some b) since seen c0) ∧ (∀ x ∈ es.toList, x.born < since) ∧ (since ≤ c0 ∧ since ≤ clock) ∧ left = (leftOf es seen).toList.map (fun e => (e.key, e.val))
variable {r : Nat} {left : List (Value × Value)} {row : Option Nat}
theorem Ranges.map (h : Ranges w V b r l left) : MapIs w V b l := by
  obtain ⟨es, clock, since, seen, c0, hb, hs, hv, hl, _⟩ := h
  exact ⟨es, clock, hb, hs, hv, hl⟩
theorem Ranges.lt (h : Ranges w V b r l left) : r < w.heap.size := by
  obtain ⟨es, clock, since, seen, c0, _, _, _, _, hr, _⟩ := h
  exact (Array.getElem?_eq_some_iff.1 hr).1
theorem Ranges.ne (h : Ranges w V b r l left) : r ≠ b := by
  obtain ⟨es, clock, since, seen, c0, hb, _, _, _, hr, _⟩ := h
  intro e
  rw [e, hb] at hr
  cases hr
theorem Ranges.kept (h : Ranges w V b r l left) (hg : w.grownBy w1 row) (hb' : some b ≠ row) (hr' : some r ≠ row) : Ranges w1 V b r l left := by
  have h1 := h.map.lt
  have h2 := h.lt
  obtain ⟨es, clock, since, seen, c0, hb, hs, hv, hl, hr, rest⟩ := h
  exact ⟨es, clock, since, seen, c0, (hg.block b h1 hb').trans hb, hs, hv, hl, (hg.block r h2 hr').trans hr, rest⟩
theorem MapIs.range (h : MapIs w V b l) (ht : P.underlying t = some (.map k e)) :
    ∃ w', (Instr.range t (.map (some b))).run P w = .ok (.pointer (some ⟨w.heap.size, 0, none⟩)) w' ∧ Ranges w' V b w.heap.size l l ∧ w.grownBy w' none ∧ w'.heap.size = w.heap.size + 1 := by
  have hlt := h.lt
  obtain ⟨es, clock, hb, hs, hv, rfl⟩ := h
  exact ⟨_, run_range_map w t k e b es clock ht hb, ⟨es, clock, clock, #[], clock, ((MapKept.heap_alloc w _).2 b hlt).trans hb, hs, hv, rfl, (MapKept.heap_alloc w _).1, hs.1, ⟨Nat.le_refl _, Nat.le_refl _⟩, by simp only [leftOf, pairs]; rw [Array.toList_filter, List.filter_eq_self.2 (by simp)]⟩, World.grownBy_alloc w _ none, by simp⟩
theorem left_push {es : Array MapEntry} {clock : Nat} (hs : Stamped es clock) {seen : Array Nat} {x : MapEntry} (hx : x ∈ (leftOf es seen).toList) :
    ∃ l1 l2, (leftOf es seen).toList = l1 ++ x :: l2 ∧ (leftOf es (seen.push x.born)).toList = l1 ++ l2 := by
  obtain ⟨l1, l2, hl⟩ := List.append_of_mem hx
  refine ⟨l1, l2, hl, ?_⟩
  have hn : ((leftOf es seen).toList.map (·.born)).Nodup := by
    refine List.Nodup.sublist ?_ ((stamped_iff es clock).1 hs).2.1
    refine List.Sublist.map _ ?_
    unfold leftOf
    rw [Array.toList_filter]
    exact List.filter_sublist
  rw [hl] at hn
  have e1 : (leftOf es (seen.push x.born)).toList = ((leftOf es seen).toList).filter (fun e => !(e.born == x.born)) := by
    unfold leftOf
    rw [Array.toList_filter, Array.toList_filter, List.filter_filter]
    congr 1
    funext e
    rw [contains_push]
    cases seen.contains e.born <;> cases (e.born == x.born) <;> rfl
  rw [e1, hl, List.filter_append, List.filter_cons]
  rw [if_neg (by simp)]
  rw [List.map_append, List.map_cons, List.nodup_append] at hn
  obtain ⟨_, hn2, hn3⟩ := hn
  rw [List.nodup_cons] at hn2
  congr 1
  · refine List.filter_eq_self.2 fun e he => ?_
    have := hn3 e.born (List.mem_map.2 ⟨e, he, rfl⟩) x.born (by simp)
    simpa using this
  · refine List.filter_eq_self.2 fun e he => ?_
    have : e.born ≠ x.born := fun h => hn2.1 (List.mem_map.2 ⟨e, he, h⟩)
    simpa using this
theorem Ranges.next (h : Ranges w V b r l left) (ty : TypeId) :
    (left = [] ∧ (Instr.next (.pointer (some ⟨r, 0, none⟩)) false ty).run P w = .ok (.tuple #[.bool false]) w) ∨
    ∃ l1 key v l2 w', left = l1 ++ (key, v) :: l2 ∧ (key, v) ∈ l ∧ V key ∧ (Instr.next (.pointer (some ⟨r, 0, none⟩)) false ty).run P w = .ok (.tuple #[.bool true, key, v]) w' ∧ Ranges w' V b r l (l1 ++ l2) ∧ w.grownBy w' (some r) ∧
      w'.heap.size = w.heap.size ∧ (Instr.entry (.pointer (some ⟨r, 0, none⟩))).run P w' = .ok (.tuple #[key, v]) w' := by
  have hne := h.ne
  obtain ⟨es, clock, since, seen, c0, hb, hs, hv, rfl, hr, hold, hsc, rfl⟩ := h
  have hn := ((stamped_iff es clock).1 hs).2.1
  rcases run_next_at (P := P) w ty r b since c0 seen es clock hr hb hold hsc.1 with ⟨h0, hrun⟩ | ⟨x, hx, w1, hal, hrun⟩
  · refine .inl ⟨?_, hrun⟩
    have : (leftOf es seen).toList = [] := List.eq_nil_of_length_eq_zero (by simpa using h0)
    rw [this]; rfl
  · obtain ⟨hxm, _⟩ := mem_left hx
    obtain ⟨l1, l2, hl, hl2⟩ := left_push hs hx
    have hr1 : w1.heap[r]? = some (.mapIter (some b) since seen c0) := by rcases hal with rfl | rfl <;> exact hr
    have hb1 : w1.heap[b]? = some (.map es clock) := by rcases hal with rfl | rfl <;> exact hb
    have hset := heap_set (o' := .mapIter (some b) since (seen.push x.born) clock) hr1
    have hb' : (setBlock w1 r (.mapIter (some b) since (seen.push x.born) clock)).heap[b]? = some (.map es clock) := (hset.2 b (fun e1 => hne e1.symm)).trans hb1
    refine .inr ⟨l1.map (fun e => (e.key, e.val)), x.key, x.val, l2.map (fun e => (e.key, e.val)), _, by rw [hl, List.map_append, List.map_cons], List.mem_map.2 ⟨x, hxm, rfl⟩, hv x hxm, hrun,
      ⟨es, clock, since, seen.push x.born, clock, hb', hs, hv, rfl, hset.1, hold, ⟨hsc.2, hsc.2⟩, by rw [hl2, List.map_append]⟩, ?_, ?_, run_entry_at _ r b since seen es clock x hset.1 hb' hxm hn⟩
    · rcases hal with rfl | rfl <;> exact ⟨rfl, rfl, rfl, by simp [setBlock], fun i _ hi => hset.2 i (fun e1 => hi (by rw [e1]))⟩
    · rcases hal with rfl | rfl <;> simp [setBlock]
end
end Go.Proofs.RawMap


set_option linter.unusedVariables false
set_option linter.unusedSimpArgs false
namespace Go.Proofs.YthkclagcbjnckaaW.PrintWords
open Go.RowKit
structure Aside0 (p : Prop) : Prop where mk :: (out : p)
structure Drawn0 (w w' : World) : Prop where mk :: (out : ∃ n, w' = w.drewN n)
theorem Drawn0.refl (w : World) : Drawn0 w w := ⟨⟨0, rfl⟩⟩
theorem Drawn0.step {w w' : World} (h : Drawn0 w w') (n : Nat) : Drawn0 w (w'.drewN n) := by
  obtain ⟨m, rfl⟩ := h
  exact ⟨⟨m + n, World.drewN_drewN ..⟩⟩
theorem Drawn0.below {w w' : World} (h : Drawn0 w w') : Below w.heap.size w w' := by
  obtain ⟨n, rfl⟩ := h
  induction n with
  | zero => exact Below.refl _ _
  | succ n ih => rw [← World.drew_drewN]; exact ih.drew
def rd (xs : List Int) (i : Int) : Int := xs.getD i.toNat 0
def bt (s : ByteArray) (i : Int) : Int := if h : i.toNat < s.size then ((s[i.toNat]'h).toNat : Int) else 0
def nums (k : IntKind) (xs : List Int) : List Value := xs.map fun x => .int k x
theorem below_alloc {w W : World} (h : Below w.heap.size w W) (o : Obj) : Below w.heap.size w (W.alloc o) := h.alloc h.size o
theorem below_drew {B : Nat} {w W : World} (h : Below B w W) : Below B w W.drew := ⟨h.os, h.tape, h.output, h.size, h.block⟩
theorem pw_below_drewN {B : Nat} {w W : World} (h : Below B w W) (n : Nat) : Below B w (W.drewN n) := ⟨h.os, h.tape, h.output, h.size, h.block⟩
theorem below_then {B : Nat} {w w1 w2 : World} (h : Below B w w1) (hB : B ≤ w1.heap.size) (k : Below w1.heap.size w1 w2) : Below B w w2 :=
  h.trans ⟨k.os, k.tape, k.output, k.size, fun i hi => k.block i (Nat.lt_of_lt_of_le hi hB)⟩
theorem grown_of_below {w w1 : World} (h : Below w.heap.size w w1) (row : Option Nat) : w.grownBy w1 row := ⟨h.os, h.tape, h.output, h.size, fun i hi _ => h.block i hi⟩
theorem pw_cell_below {w w1 : World} (h : Below w.heap.size w w1) {a : Addr} {v : Value} (hc : w.cell? a = some v) : w1.cell? a = some v := (h.cell (World.block_lt_of_cell? w a hc)).trans hc
theorem add_plain (g j : Nat) : (⟨g, 0, none⟩ : Addr).add j = ⟨g, j, none⟩ := by unfold Addr.add; split <;> simp_all
theorem own_nil (W : World) (base : Nat) (e : TypeId) (size : Nat) : W.ownsRow base e size (.slice none 0 0) 0 [] := ⟨by simp, .inl ⟨rfl, rfl⟩⟩
theorem own_base {w : World} {base : Nat} {e : TypeId} {size n : Nat} {v : Value} {xs : List Value} (h : w.ownsRow base e size v n xs) (k : Nat) (hk : v.ownBlock = some k) : base ≤ k := by
  rcases h.2 with ⟨rfl, _⟩ | ⟨g, cap, cur, rfl, hb, _⟩
  · simp [Value.ownBlock] at hk
  · have : g = k := by simpa [Value.ownBlock] using hk
    omega
theorem own_lt {w : World} {base : Nat} {e : TypeId} {size n : Nat} {v : Value} {xs : List Value} (h : w.ownsRow base e size v n xs) (k : Nat) (hk : v.ownBlock = some k) : k < w.heap.size := by
  rcases h.2 with ⟨rfl, _⟩ | ⟨g, cap, cur, rfl, hb, hh, _⟩
  · simp [Value.ownBlock] at hk
  · have : g = k := by simpa [Value.ownBlock] using hk
    subst this
    exact (Array.getElem?_eq_some_iff.1 hh).1
section
variable {P : Program} {ops : Array Oper} {rest : List Oper} {o : Oper} {a : Act} {Q : Exit → Act → World → Prop}
end
section
variable {P : Program}
end
section
variable {P : Program} {ops : Array Oper} {rest : List Oper} {o : Oper} {a : Act} {Q : Exit → Act → World → Prop}
end
def bytesOf (s : ByteArray) : List Int := s.data.toList.map fun b => (b.toNat : Int)
def Reps {α : Type} (R : α → List Value → Prop) (size : Nat) (ps : List α) (cs : List Value) : Prop :=
  cs.length = ps.length * size ∧ ∀ j p, ps[j]? = some p → R p ((cs.drop (j * size)).take size)
theorem Reps.none {α : Type} (R : α → List Value → Prop) (size : Nat) : Reps R size [] [] := ⟨by simp, fun j p h => by simp at h⟩
theorem Reps.snoc {α : Type} {R : α → List Value → Prop} {size : Nat} {ps : List α} {cs c : List Value} {p : α} (h : Reps R size ps cs) (hp : R p c) (hc : c.length = size) : Reps R size (ps ++ [p]) (cs ++ c) := by
  refine ⟨by rw [List.length_append, h.1, hc, List.length_append, List.length_singleton, Nat.add_mul, Nat.one_mul], fun j q hq => ?_⟩
  rcases Nat.lt_or_ge j ps.length with hj | hj
  · rw [List.getElem?_append_left hj] at hq
    have h1 : j * size + size ≤ cs.length := by rw [h.1, ← Nat.succ_mul]; exact Nat.mul_le_mul_right _ hj
    have h2 := h.2 j q hq
    rw [List.drop_append_of_le_length (by omega), List.take_append_of_le_length (by rw [List.length_drop]; omega)]
    exact h2
  · have hj' : j = ps.length := by
      have := (List.getElem?_eq_some_iff.1 hq).1
      rw [List.length_append, List.length_singleton] at this
      omega
    subst hj'
    have hq' : p = q := by simpa using hq
    subst hq'
    rw [← h.1, List.drop_left, ← hc, List.take_length]
    exact hp
theorem Reps.imp_ {α : Type} {R R' : α → List Value → Prop} {size : Nat} {ps : List α} {cs : List Value} (h : Reps R size ps cs) (hR : ∀ p c, R p c → R' p c) : Reps R' size ps cs := ⟨h.1, fun j p hj => hR _ _ (h.2 j p hj)⟩
def ReadsRow {α : Type} (R : α → List Value → Prop) (size : Nat) (w : World) (A : Option Addr) (n : Nat) (ps : List α) : Prop :=
  ps.length = n ∧ n ≤ 9223372036854775807 ∧ (0 < n → ∃ ad, A = some ad ∧ ∀ j p, ps[j]? = some p → ∃ c, c.length = size ∧ R p c ∧ ∀ i u, c[i]? = some u → w.cell? (ad.add (j * size + i)) = some u)
theorem ReadsRow.get_ {α : Type} {R : α → List Value → Prop} {size : Nat} {w : World} {A : Option Addr} {n : Nat} {ps : List α} (h : ReadsRow R size w A n ps) (d : α) (i : Int) (h0 : 0 ≤ i) (h1 : i < n) :
    ∃ ad c, A = some ad ∧ c.length = size ∧ R (ps.getD i.toNat d) c ∧ ∀ j u, c[j]? = some u → w.cell? (ad.add (i.toNat * size + j)) = some u := by
  obtain ⟨ad, e, hc⟩ := h.2.2 (by omega)
  have hl : i.toNat < ps.length := by have := h.1; omega
  obtain ⟨c, hs, hr, hcell⟩ := hc i.toNat _ (List.getElem?_eq_getElem hl)
  refine ⟨ad, c, e, hs, ?_, hcell⟩
  rw [List.getD_eq_getElem?_getD, List.getElem?_eq_getElem hl]
  exact hr
theorem ReadsRow.imp_ {α : Type} {R R' : α → List Value → Prop} {size : Nat} {w w1 : World} {A : Option Addr} {n : Nat} {ps : List α} (h : ReadsRow R size w A n ps) (hb : Below w.heap.size w w1) (hR : ∀ p c, R p c → R' p c) : ReadsRow R' size w1 A n ps :=
  ⟨h.1, h.2.1, fun hn => by
    obtain ⟨ad, e, hc⟩ := h.2.2 hn
    refine ⟨ad, e, fun j p hj => ?_⟩
    obtain ⟨c, hs, hr, hcell⟩ := hc j p hj
    exact ⟨c, hs, hR _ _ hr, fun i u hu => pw_cell_below hb (hcell i u hu)⟩⟩
theorem own_reads_row {α : Type} {R : α → List Value → Prop} {w : World} {base n size : Nat} {e : TypeId} {v : Value} {ps : List α} {cs : List Value} (h : w.ownsRow base e size v n cs) (hR : Reps R size ps cs) (hn : ps.length = n) :
    ∃ A c, v = .slice A n c ∧ ReadsRow R size w A n ps := by
  rcases Nat.eq_zero_or_pos n with h0 | h0
  · rcases h.2 with ⟨rfl, rfl⟩ | ⟨g, cap, cur, rfl, _⟩
    · exact ⟨none, 0, rfl, hn, by omega, fun hp => absurd hp (by omega)⟩
    · exact ⟨_, cap, rfl, hn, by omega, fun hp => absurd hp (by omega)⟩
  · obtain ⟨g, cap, rfl, _, _⟩ := h.form h0
    have hm : n ≤ 9223372036854775807 := by
      rcases h.2 with ⟨_, h1⟩ | ⟨g', cap', cur, he, _, _, h1, h2, _⟩
      · omega
      · simp only [maxLen] at h2
        omega
    refine ⟨_, cap, rfl, hn, hm, fun _ => ⟨_, rfl, fun j p hj => ⟨(cs.drop (j * size)).take size, ?_, hR.2 j p hj, fun i u hu => ?_⟩⟩⟩
    · have hjl := (List.getElem?_eq_some_iff.1 hj).1
      have h1 : j * size + size ≤ cs.length := by rw [hR.1, ← Nat.succ_mul]; exact Nat.mul_le_mul_right _ hjl
      rw [List.length_take, List.length_drop]
      omega
    · refine h.cells (g := g) rfl _ u ?_
      rw [List.getElem?_take] at hu
      split at hu
      · rw [List.getElem?_drop] at hu
        exact hu
      · cases hu
theorem add_field (ad : Addr) (m j : Nat) (hj : 0 < j) : ad.add (m + j) = ⟨(ad.add m).block, (ad.add m).off + j, none⟩ := by
  unfold Addr.add
  by_cases hm : m = 0
  · subst hm
    simp [Nat.ne_of_gt hj]
  · simp [hm, Nat.add_assoc]
section
variable {P : Program} {ops : Array Oper} {rest : List Oper} {o : Oper} {a : Act} {Q : Exit → Act → World → Prop}
theorem print_append_cells {w0 W : World} (base : Nat) (hgd : o.guard = none) (s x : Operand) (t e : TypeId) (z : Value) (size bytes : Nat)
    (ho : o.op = .call { callee := .builtin .append, args := #[s, x], argTypes := #[t, t] })
    (ht : P.underlying t = some (.slice e)) (hinfo : (P.info? e).map (fun i => (i.zero, i.size, i.bytes)) = some (some z, size, bytes)) (hz : z.cells.size = size) (hs0 : 0 < size) (hb0 : 0 < bytes)
    (v : Value) (n : Nat) (xs ys : List Value) (hs : a.eval s = v) (hx : a.eval x = .slice (some ⟨W.heap.size, 0, none⟩) 1 1) (hys : ys.length = size) (h1 : ∀ u ∈ ys, u.oneCell' = true)
    (HO : W.ownsRow base e size v n xs) (HB : Below base w0 W) (hbase : base ≤ W.heap.size) (hl : (n + 1) * bytes ≤ 140737488355328)
    (h : ∀ v1 w1, w1.ownsRow base e size v1 (n + 1) (xs ++ ys) → Below base w0 w1 → W.grownBy w1 v.ownBlock → (v1.ownBlock = v.ownBlock ∨ ∃ b, v1.ownBlock = some b ∧ W.heap.size ≤ b) → wpList P ops Q rest (a.put o.dst v1) w1) :
    wpList P ops Q (o :: rest) a (W.alloc (.cells ys.toArray e)) := by
  obtain ⟨i0, hi, hzz⟩ := Option.map_eq_some_iff.1 hinfo
  simp only [Prod.mk.injEq] at hzz
  obtain ⟨hz0, hz1, hz2⟩ := hzz
  have hlen : n + 1 ≤ 140737488355328 := Nat.le_trans (Nat.le_mul_of_pos_right _ hb0) hl
  refine wpList_append_own_at (W.alloc (.cells ys.toArray e)) hgd s x t ho base e i0 z size bytes ht hi hz0 hz1 hz2 hz hs0 v n xs hs (HO.alloc _) ⟨W.heap.size, 0, none⟩ 1 1 ys hx (by rw [hys]; simp)
    (by simpa using World.news_of_block (cs := ys.toArray) (t := e) (fr := (0, 0)) (heap_alloc_new W (.cells ys.toArray e))) h1 (by simp only [maxLen]; omega) hl (by simp; omega) ?_
  intro v1 w1 hown hg _ hat
  refine h v1 w1 hown ((HB.alloc hbase _).grown hg (by simp; omega) (own_base HO)) (World.grownBy.trans (World.grownBy_alloc W _ _) hg) ?_
  rcases hat with hat | hat
  · exact .inl hat
  · exact .inr ⟨_, hat, by simp⟩
end
theorem own_ne {w : World} {base : Nat} {e t : TypeId} {size n g : Nat} {v : Value} {xs : List Value} {cs : Array Value} (h : w.ownsRow base e size v n xs) (hg : w.heap[g]? = some (.cells cs t (0, 0))) (hne : e ≠ t) : some g ≠ v.ownBlock := by
  rcases h.2 with ⟨rfl, _⟩ | ⟨g', cap, cur, rfl, _, hh, _⟩
  · simp [Value.ownBlock]
  · intro he
    have : g = g' := by simpa [Value.ownBlock] using he
    subst this
    rw [hg] at hh
    injection hh with hh
    injection hh with _ ht
    exact hne ht.symm
theorem blk_set {w : World} {g : Nat} {t : TypeId} {cs : Array Value} (h : w.heap[g]? = some (.cells cs t (0, 0))) (i : Nat) (u : Value) : (w.setCell ⟨g, i, none⟩ u).heap[g]? = some (.cells (cs.setIfInBounds i u) t (0, 0)) := by
  simp [World.setCell, Array.getElem?_modify, h]
theorem blk_far {w : World} {g : Nat} {t : TypeId} {cs : Array Value} (h : w.heap[g]? = some (.cells cs t (0, 0))) {p : Addr} (hp : g ≠ p.block) (u : Value) : (w.setCell p u).heap[g]? = some (.cells cs t (0, 0)) := (Below.heap_setCell w p u g hp).trans h
theorem blk_lt {w : World} {g : Nat} {o : Obj} (h : w.heap[g]? = some o) : g < w.heap.size := (Array.getElem?_eq_some_iff.1 h).1
theorem blk_cell {w : World} {g : Nat} {t : TypeId} {cs : Array Value} (h : w.heap[g]? = some (.cells cs t (0, 0))) (i : Nat) : w.cell? ⟨g, i, none⟩ = cs[i]? := cell_of_row w g i cs t (0, 0) h
theorem blk_frozen {w : World} {g : Nat} {t : TypeId} {cs : Array Value} (h : w.heap[g]? = some (.cells cs t (0, 0))) (i : Nat) : w.frozen? ⟨g, i, none⟩ = false := by simp [World.frozen?, h]
theorem blk_grown {w w1 : World} {g : Nat} {o : Obj} {row : Option Nat} (h : w.heap[g]? = some o) (hg : w.grownBy w1 row) (hne : some g ≠ row) : w1.heap[g]? = some o := (hg.block g (blk_lt h) hne).trans h
def Ev {α : Type} (g : Nat → Option α) (r : α) : Prop := ∃ K, ∀ k, K ≤ k → g k = some r
theorem Ev.now {α : Type} (r : α) : Ev (fun _ => some r) r := ⟨0, fun _ _ => rfl⟩
theorem Ev.rounds {α : Type} {g : Nat → Option α} {r : α} (h : Ev g r) : ∃ k, g k = some r := by
  obtain ⟨K, h⟩ := h
  exact ⟨K, h K (Nat.le_refl _)⟩
theorem Ev.bind {α β : Type} {g : Nat → Option α} {f : Nat → α → Option β} {a : α} {r : β} (h : Ev g a) (k : Ev (fun n => f n a) r) : Ev (fun n => (g n).bind (f n)) r := by
  obtain ⟨K, h⟩ := h
  obtain ⟨K', k⟩ := k
  refine ⟨max K K', fun n hn => ?_⟩
  have h1 := h n (by omega)
  have h2 := k n (by omega)
  simp only [h1, Option.bind_some]
  exact h2
theorem Ev.step {α : Type} {g f : Nat → Option α} {r : α} (h : ∀ k, g (k + 1) = f k) (k : Ev f r) : Ev g r := by
  obtain ⟨K, k⟩ := k
  refine ⟨K + 1, fun n hn => ?_⟩
  obtain ⟨m, rfl⟩ : ∃ m, n = m + 1 := ⟨n - 1, by omega⟩
  rw [h]
  exact k m (by omega)
theorem Ev.congr {α : Type} {g f : Nat → Option α} {r : α} (h : ∀ k, g k = f k) (k : Ev f r) : Ev g r := by
  obtain ⟨K, k⟩ := k
  exact ⟨K, fun n hn => (h n).trans (k n hn)⟩
section
variable {P : Program} {ops : Array Oper} {o : Oper} {a : Act} {Q : Exit → Act → World → Prop} {K : Act → World → Prop}
theorem step_append_cells {w0 W : World} (base : Nat) (hw : Region.wanted o (yielded ops a.tmps) = true) (s x : Operand) (t e : TypeId) (z : Value) (size bytes : Nat)
    (ho : o.op = .call { callee := .builtin .append, args := #[s, x], argTypes := #[t, t] })
    (ht : P.underlying t = some (.slice e)) (hinfo : (P.info? e).map (fun i => (i.zero, i.size, i.bytes)) = some (some z, size, bytes)) (hz : z.cells.size = size) (hs0 : 0 < size) (hb0 : 0 < bytes)
    (v : Value) (n : Nat) (xs ys : List Value) (hs : a.eval s = v) (hx : a.eval x = .slice (some ⟨W.heap.size, 0, none⟩) 1 1) (hys : ys.length = size) (h1 : ∀ u ∈ ys, u.oneCell' = true)
    (HO : W.ownsRow base e size v n xs) (HB : Below base w0 W) (hbase : base ≤ W.heap.size) (hl : (n + 1) * bytes ≤ 140737488355328)
    (h : ∀ v1 w1, w1.ownsRow base e size v1 (n + 1) (xs ++ ys) → Below base w0 w1 → W.grownBy w1 v.ownBlock → (v1.ownBlock = v.ownBlock ∨ ∃ b, v1.ownBlock = some b ∧ W.heap.size ≤ b) → K (a.put o.dst v1) w1) :
    if Region.wanted o (yielded ops a.tmps) = true then Oper.wp P o a (W.alloc (.cells ys.toArray e)) K Q else K (a.put o.dst undef) (W.alloc (.cells ys.toArray e)) := by
  obtain ⟨i0, hi, hzz⟩ := Option.map_eq_some_iff.1 hinfo
  simp only [Prod.mk.injEq] at hzz
  obtain ⟨hz0, hz1, hz2⟩ := hzz
  have hlen : n + 1 ≤ 140737488355328 := Nat.le_trans (Nat.le_mul_of_pos_right _ hb0) hl
  rw [if_pos hw]
  obtain ⟨v1, w1, hr, hown, hg, _, hat⟩ := run_append_own_at (P := P) (W.alloc (.cells ys.toArray e)) base t o.type e i0 z size bytes ht hi hz0 hz1 hz2 hz hs0 v n xs (HO.alloc _) ⟨W.heap.size, 0, none⟩ 1 1 ys (by rw [hys]; simp)
    (by simpa using World.news_of_block (cs := ys.toArray) (t := e) (fr := (0, 0)) (heap_alloc_new W (.cells ys.toArray e))) h1 (by simp only [maxLen]; omega) hl (by simp; omega)
  unfold Oper.wp execOp
  simp only [ho, resolve, invoke, builtin, Sem.run_bind, Sem.run_pure, Result.andThen_ok, List.map_toArray, List.map_cons, List.map_nil, hs, hx, hr]
  refine h v1 w1 hown ((HB.alloc hbase _).grown hg (by simp; omega) (own_base HO)) (World.grownBy.trans (World.grownBy_alloc W _ _) hg) ?_
  rcases hat with hat | hat
  · exact .inl hat
  · exact .inr ⟨_, hat, by simp⟩
end
theorem own_weaken {w : World} {base base' : Nat} {e : TypeId} {size n : Nat} {v : Value} {xs : List Value} (h : w.ownsRow base e size v n xs) (hb : base' ≤ base) : w.ownsRow base' e size v n xs := by
  obtain ⟨h1, h2⟩ := h
  refine ⟨h1, ?_⟩
  rcases h2 with h2 | ⟨g, cap, cur, rfl, hg, r⟩
  · exact .inl h2
  · exact .inr ⟨g, cap, cur, rfl, Nat.le_trans hb hg, r⟩
section
variable {α : Type} {enc : α → Value} {d : α}
def encs (enc : α → Value) (xs : List α) : List Value := xs.map enc
def rdOf (d : α) (xs : List α) (i : Int) : α := xs.getD i.toNat d
def ReadsOf (enc : α → Value) (d : α) (w : World) (A : Option Addr) (n : Nat) (xs : List α) : Prop :=
  xs.length = n ∧ n ≤ 9223372036854775807 ∧ (0 < n → ∃ ad, A = some ad ∧ ∀ j, j < n → w.cell? (ad.add j) = some (enc (xs.getD j d)))
theorem ReadsOf.at_ {w : World} {A : Option Addr} {n : Nat} {xs : List α} (h : ReadsOf enc d w A n xs) (i : Int) (h0 : 0 ≤ i) (h1 : i < n) : ∃ ad, A = some ad ∧ w.cell? (ad.add i.toNat) = some (enc (rdOf d xs i)) := by
  obtain ⟨ad, e, hc⟩ := h.2.2 (by omega)
  exact ⟨ad, e, hc _ (by omega)⟩
end
section
variable {α : Type} {P : Program} {ops : Array Oper} {rest : List Oper} {o : Oper} {a : Act} {Q : Exit → Act → World → Prop}
end
theorem blk_drew {w : World} {g : Nat} {o : Obj} (h : w.heap[g]? = some o) : w.drew.heap[g]? = some o := h
theorem blk_drewN {w : World} {g : Nat} {o : Obj} (h : w.heap[g]? = some o) (n : Nat) : (w.drewN n).heap[g]? = some o := h
theorem blk_below {w w1 : World} {g : Nat} {o : Obj} (h : w.heap[g]? = some o) (hb : Below w.heap.size w w1) : w1.heap[g]? = some o := (hb.block g (blk_lt h)).trans h
theorem blk_new (w : World) (o : Obj) : (w.alloc o).heap[w.heap.size]? = some o := heap_alloc_new w o
section
variable {P : Program}
theorem results_ct {fn : Func} {p u : Tmp} {ty : TypeId} (h : fn.results = #[.cell p ty, .tmp u]) (tmps : Array Value) (w : World) (g : Nat) (t : TypeId) (cs : Array Value) (fr : Nat × Nat) (d : TypeDesc)
    (hp : tmps.getD p undef = .pointer (some ⟨g, 0, none⟩)) (hg : w.heap[g]? = some (.cells cs t fr))
    (hu : P.underlying ty = some d) (hd : (match d with | .struct _ | .array _ _ => true | _ => false) = true) (hi : (P.info? ty).map (·.size) = some cs.size) :
    (results fn tmps).run P w = .ok (.tuple #[.agg cs, tmps.getD u undef]) w := by
  have hp' : tmps[p]?.getD undef = .pointer (some ⟨g, 0, none⟩) := by simpa using hp
  simp [results, h, hp', asAddr, run_loadVar_row w g t ty cs fr d hg hu hd hi]
end
theorem own_le {w : World} {base n m c size : Nat} {e : TypeId} {A : Option Addr} {xs : List Value} (h : w.ownsRow base e size (.slice A m c) n xs) : m ≤ c := by
  rcases h.2 with ⟨he, _⟩ | ⟨g, cap, cur, he, _, _, hnc, _⟩
  · injection he with _ h2 h3
    omega
  · injection he with _ h2 h3
    omega
def OwnRow {α : Type} (R : α → List Value → Prop) (e : TypeId) (size : Nat) (w : World) (base : Nat) (v : Value) (ps : List α) : Prop :=
  ∃ inner, w.ownsRow base e size v ps.length inner ∧ Reps R size ps inner
section
variable {α : Type} {R R' : α → List Value → Prop} {e : TypeId} {size : Nat} {w w1 : World} {base : Nat} {v : Value} {ps : List α}
theorem OwnRow.none_ (R : α → List Value → Prop) (e : TypeId) (size : Nat) (w : World) (base : Nat) : OwnRow R e size w base (.slice none 0 0) [] := ⟨[], own_nil _ _ _ _, Reps.none _ _⟩
theorem OwnRow.imp_ (h : OwnRow R e size w base v ps) (hR : ∀ p c, R p c → R' p c) : OwnRow R' e size w base v ps := by
  obtain ⟨inner, ho, hr⟩ := h
  exact ⟨inner, ho, hr.imp_ hR⟩
theorem OwnRow.reads (h : OwnRow R e size w base v ps) : ∃ A c, v = .slice A ps.length c ∧ ps.length ≤ c ∧ ReadsRow R size w A ps.length ps := by
  obtain ⟨inner, ho, hr⟩ := h
  obtain ⟨A, c, rfl, hrow⟩ := own_reads_row ho hr rfl
  exact ⟨A, c, rfl, own_le ho, hrow⟩
theorem OwnRow.ne_block (h : OwnRow R e size w base v ps) {g : Nat} {t : TypeId} {cells : Array Value} (hb : w.heap[g]? = some (.cells cells t (0, 0))) (ht : e ≠ t) : some g ≠ v.ownBlock := by
  obtain ⟨inner, ho, hr⟩ := h
  exact own_ne ho hb ht
end
section
variable {P : Program} {ops : Array Oper} {rest : List Oper} {o : Oper} {a : Act} {Q : Exit → Act → World → Prop} {α : Type} {R : α → List Value → Prop}
end
section
variable {P : Program} {ops : Array Oper} {o : Oper} {a : Act} {Q : Exit → Act → World → Prop} {K : Act → World → Prop} {α : Type} {R : α → List Value → Prop}
end
theorem ReadsRow.inner_ {α : Type} {R : α → List Value → Prop} {size : Nat} {w : World} {ad : Addr} {n : Nat} {ps : List α} (h : ReadsRow R size w (some ad) n ps) :
    ∃ inner, Reps R size ps inner ∧ ∀ j u, inner[j]? = some u → w.cell? (ad.add j) = some u := by
  have key : ∀ m, m ≤ ps.length → ∃ inner, Reps R size (ps.take m) inner ∧ ∀ j u, inner[j]? = some u → w.cell? (ad.add j) = some u := by
    intro m
    induction m with
    | zero => exact fun _ => ⟨[], Reps.none _ _, fun j u hu => by simp at hu⟩
    | succ m ih =>
      intro hm
      obtain ⟨inner, hr, hc⟩ := ih (by omega)
      obtain ⟨ad', he, hcell⟩ := h.2.2 (by have := h.1; omega)
      injection he with he
      subst he
      obtain ⟨c, hcl, hp, hcc⟩ := hcell m _ (List.getElem?_eq_getElem (show m < ps.length by omega))
      refine ⟨inner ++ c, ?_, fun j u hu => ?_⟩
      · rw [List.take_succ_eq_append_getElem (show m < ps.length by omega)]
        exact hr.snoc hp hcl
      · have hil : inner.length = m * size := by rw [hr.1, List.length_take, Nat.min_eq_left (by omega)]
        rcases Nat.lt_or_ge j inner.length with hj | hj
        · rw [List.getElem?_append_left hj] at hu
          exact hc j u hu
        · rw [List.getElem?_append_right hj] at hu
          have := hcc (j - inner.length) u hu
          rwa [hil, Nat.add_sub_cancel' (by omega)] at this
  obtain ⟨inner, hr, hc⟩ := key ps.length (Nat.le_refl _)
  rw [List.take_length] at hr
  exact ⟨inner, hr, hc⟩
section
variable {α : Type} {P : Program}
end
section
variable {P : Program} {ops : Array Oper} {rest : List Oper} {o : Oper} {a : Act} {Q : Exit → Act → World → Prop}
end
structure Kd (α : Type) where
  sz : Nat
  E : List Nat
  K : World → α → List Value → Prop
  M : World → Nat → (Nat → Prop) → α → List Value → Prop
  K_len : ∀ {w x cs}, K w x cs → cs.length = sz
  K_one : ∀ {w x cs}, K w x cs → ∀ u ∈ cs, u.oneCell' = true
  K_below : ∀ {w w1 : World} {x cs}, Below w.heap.size w w1 → K w x cs → K w1 x cs
  K_of_M : ∀ {w base ok x cs}, M w base ok x cs → K w x cs
  M_mono : ∀ {w base ok ok' x cs}, (∀ k, ok k → ok' k) → M w base ok x cs → M w base ok' x cs
  M_bound : ∀ {w : World} {base ok x cs}, M w base ok x cs → M w base (fun k => ok k ∧ base ≤ k ∧ k < w.heap.size ∧ ∃ q, q ∈ E ∧ ∃ cells, w.heap[k]? = some (.cells cells q (0, 0))) x cs
  M_move : ∀ {w w1 : World} {base ok x cs}, (∀ k, ok k → w1.heap[k]? = w.heap[k]?) → M w base ok x cs → M w1 base ok x cs
  M_lower : ∀ {w base base' ok x cs}, base' ≤ base → M w base ok x cs → M w base' ok x cs
theorem own_move {w w1 : World} {base : Nat} {e : TypeId} {size n : Nat} {v : Value} {xs : List Value} (h : w.ownsRow base e size v n xs) (hm : ∀ k, v.ownBlock = some k → w1.heap[k]? = w.heap[k]?) : w1.ownsRow base e size v n xs := by
  obtain ⟨h1, h2⟩ := h
  refine ⟨h1, ?_⟩
  rcases h2 with h2 | ⟨g, cap, cur, rfl, hg, hh, r⟩
  · exact .inl h2
  · exact .inr ⟨g, cap, cur, rfl, hg, (hm g (by simp [Value.ownBlock])).trans hh, r⟩
theorem own_typed {w : World} {base : Nat} {e : TypeId} {size n : Nat} {v : Value} {xs : List Value} (h : w.ownsRow base e size v n xs) (k : Nat) (hk : v.ownBlock = some k) : ∃ cells, w.heap[k]? = some (.cells cells e (0, 0)) := by
  rcases h.2 with ⟨rfl, _⟩ | ⟨g, cap, cur, rfl, hg, hh, r⟩
  · simp [Value.ownBlock] at hk
  · have : g = k := by simpa [Value.ownBlock] using hk
    subst this
    exact ⟨cur, hh⟩
namespace Kd
def C {α : Type} (d : Kd α) (w : World) (A : Option Addr) (n : Nat) (xs : List α) : Prop := ReadsRow (d.K w) d.sz w A n xs
def R {α : Type} (d : Kd α) (e : Nat) (w : World) (base : Nat) (ok : Nat → Prop) (v : Value) (xs : List α) : Prop :=
  (∀ k, v.ownBlock = some k → ok k) ∧ OwnRow (d.M w base (fun k => ok k ∧ some k ≠ v.ownBlock)) e d.sz w base v xs
section
variable {α : Type} {d : Kd α} {e : Nat} {w w1 : World} {base : Nat} {ok ok' : Nat → Prop} {v : Value} {xs : List α}
theorem C_below {A : Option Addr} {n : Nat} (h : d.C w A n xs) (hb : Below w.heap.size w w1) : d.C w1 A n xs := ReadsRow.imp_ h hb (fun _ _ hp => d.K_below hb hp)
theorem R_nil (d : Kd α) (e : Nat) (w : World) (base : Nat) (ok : Nat → Prop) : d.R e w base ok (.slice none 0 0) [] := ⟨fun k hk => by simp [Value.ownBlock] at hk, OwnRow.none_ _ _ _ _ _⟩
theorem R_mono (h : d.R e w base ok v xs) (hok : ∀ k, ok k → ok' k) : d.R e w base ok' v xs := ⟨fun k hk => hok k (h.1 k hk), h.2.imp_ (fun _ _ hp => d.M_mono (fun k hk => ⟨hok k hk.1, hk.2⟩) hp)⟩
theorem R_bound (h : d.R e w base ok v xs) : d.R e w base (fun k => ok k ∧ base ≤ k ∧ k < w.heap.size ∧ ∃ q, q ∈ e :: d.E ∧ ∃ cells, w.heap[k]? = some (.cells cells q (0, 0))) v xs := by
  obtain ⟨h0, inner, ho, hr⟩ := h
  refine ⟨fun k hk => ?_, inner, ho, hr.imp_ (fun _ _ hp => d.M_mono (fun k hk => ?_) (d.M_bound hp))⟩
  · obtain ⟨cells, hc⟩ := own_typed ho k hk
    exact ⟨h0 k hk, own_base ho k hk, own_lt ho k hk, e, List.mem_cons_self, cells, hc⟩
  · obtain ⟨⟨h1, h2⟩, h3, h4, q, hq, hc⟩ := hk
    exact ⟨⟨h1, h3, h4, q, List.mem_cons_of_mem _ hq, hc⟩, h2⟩
theorem R_move (h : d.R e w base ok v xs) (hm : ∀ k, ok k → w1.heap[k]? = w.heap[k]?) : d.R e w1 base ok v xs := by
  obtain ⟨h0, inner, ho, hr⟩ := h
  exact ⟨h0, inner, own_move ho (fun k hk => hm k (h0 k hk)), hr.imp_ (fun _ _ hp => d.M_move (fun k hk => hm k hk.1) hp)⟩
theorem R_lower {base' : Nat} (h : d.R e w base ok v xs) (hb : base' ≤ base) : d.R e w base' ok v xs := by
  obtain ⟨h0, inner, ho, hr⟩ := h
  exact ⟨h0, inner, own_weaken ho hb, hr.imp_ (fun _ _ hp => d.M_lower hb hp)⟩
theorem R_step (h : d.R e w base ok v xs) (hm : ∀ k, ok k → k < w.heap.size → w1.heap[k]? = w.heap[k]?) : d.R e w1 base ok v xs :=
  R_mono (R_move (R_bound h) (fun k hk => hm k hk.1 hk.2.2.1)) (fun _ hk => hk.1)
theorem M_step {x : α} {cs : List Value} (h : d.M w base ok x cs) (hm : ∀ k, ok k → k < w.heap.size → w1.heap[k]? = w.heap[k]?) : d.M w1 base ok x cs :=
  d.M_mono (fun _ hk => hk.1) (d.M_move (fun k hk => hm k hk.1 hk.2.2.1) (d.M_bound h))
theorem R_below (h : d.R e w base ok v xs) (hb : Below w.heap.size w w1) : d.R e w1 base ok v xs := R_step h (fun k _ hk => hb.block k hk)
theorem M_below {x : α} {cs : List Value} (h : d.M w base ok x cs) (hb : Below w.heap.size w w1) : d.M w1 base ok x cs := M_step h (fun k _ hk => hb.block k hk)
theorem R_far (h : d.R e w base ok v xs) {p : Addr} (hok : ∀ k, ok k → k ≠ p.block) (u : Value) : d.R e (w.setCell p u) base ok v xs := R_step h (fun k ho _ => Below.heap_setCell w p u k (hok k ho))
theorem R_types (h : d.R e w base ok v xs) {g t : Nat} {cells : Array Value} (hb : w.heap[g]? = some (.cells cells t (0, 0))) (ht : ∀ q, q ∈ e :: d.E → q ≠ t) : d.R e w base (fun k => ok k ∧ k ≠ g) v xs :=
  R_mono (R_bound h) (fun k hk => ⟨hk.1, by
    obtain ⟨_, _, _, q, hq, cells', hc⟩ := hk
    rintro rfl
    rw [hc] at hb
    injection hb with hb
    injection hb with _ hb
    exact ht q hq hb⟩)
theorem R_reads (h : d.R e w base ok v xs) : ∃ A c, v = .slice A xs.length c ∧ xs.length ≤ c ∧ d.C w A xs.length xs := by
  obtain ⟨A, c, he, hl, hr⟩ := OwnRow.reads h.2
  exact ⟨A, c, he, hl, hr.imp_ (Below.refl _ _) (fun _ _ hp => d.K_of_M hp)⟩
theorem R_slice (h : d.R e w base ok v xs) : ∃ A c, v = .slice A xs.length c := by
  obtain ⟨A, c, he, _⟩ := R_reads h
  exact ⟨A, c, he⟩
theorem R_own (h : d.R e w base ok v xs) : ∃ inner, w.ownsRow base e d.sz v xs.length inner := by
  obtain ⟨_, inner, ho, _⟩ := h
  exact ⟨inner, ho⟩
theorem R_ne (h : d.R e w base ok v xs) {g t : Nat} {cells : Array Value} (hb : w.heap[g]? = some (.cells cells t (0, 0))) (ht : e ≠ t) : some g ≠ v.ownBlock := OwnRow.ne_block h.2 hb ht
end
def scalar {α : Type} (enc : α → Value) (h1 : ∀ x, (enc x).oneCell' = true) : Kd α where
  sz := 1
  E := []
  K := fun _ x cs => cs = [enc x]
  M := fun _ _ _ x cs => cs = [enc x]
  K_len := fun h => by rw [h]; rfl
  K_one := fun h u hu => by
    rw [h] at hu
    rw [List.mem_singleton.1 hu]
    exact h1 _
  K_below := fun _ h => h
  K_of_M := fun h => h
  M_mono := fun _ h => h
  M_bound := fun h => h
  M_move := fun _ h => h
  M_lower := fun _ h => h
def int (k : IntKind) : Kd Int := scalar (Value.int k) (fun _ => rfl)
def slice {α : Type} (e : Nat) (d : Kd α) : Kd (List α) where
  sz := 1
  E := e :: d.E
  K := fun w xs cs => ∃ A c, cs = [.slice A xs.length c] ∧ xs.length ≤ c ∧ d.C w A xs.length xs
  M := fun w base ok xs cs => ∃ v, cs = [v] ∧ d.R e w base ok v xs
  K_len := by
    rintro w x cs ⟨A, c, rfl, _⟩
    rfl
  K_one := by
    rintro w x cs ⟨A, c, rfl, _⟩ u hu
    rw [List.mem_singleton.1 hu]
    rfl
  K_below := by
    rintro w w1 x cs hb ⟨A, c, rfl, hl, hr⟩
    exact ⟨A, c, rfl, hl, C_below hr hb⟩
  K_of_M := by
    rintro w base ok x cs ⟨v, rfl, h⟩
    obtain ⟨A, c, rfl, hl, hr⟩ := R_reads h
    exact ⟨A, c, rfl, hl, hr⟩
  M_mono := by
    rintro w base ok ok' x cs hok ⟨v, rfl, h⟩
    exact ⟨v, rfl, R_mono h hok⟩
  M_bound := by
    rintro w base ok x cs ⟨v, rfl, h⟩
    exact ⟨v, rfl, R_bound h⟩
  M_move := by
    rintro w w1 base ok x cs hm ⟨v, rfl, h⟩
    exact ⟨v, rfl, R_move h hm⟩
  M_lower := by
    rintro w base base' ok x cs hb ⟨v, rfl, h⟩
    exact ⟨v, rfl, R_lower h hb⟩
def pair {α β : Type} (a : Kd α) (b : Kd β) : Kd (α × β) where
  sz := a.sz + b.sz
  E := a.E ++ b.E
  K := fun w x cs => ∃ c0 c1, cs = c0 ++ c1 ∧ a.K w x.1 c0 ∧ b.K w x.2 c1
  M := fun w base ok x cs => ∃ c0 c1, cs = c0 ++ c1 ∧ a.M w base ok x.1 c0 ∧ b.M w base ok x.2 c1
  K_len := by
    rintro w x cs ⟨c0, c1, rfl, h0, h1⟩
    rw [List.length_append, a.K_len h0, b.K_len h1]
  K_one := by
    rintro w x cs ⟨c0, c1, rfl, h0, h1⟩ u hu
    rcases List.mem_append.1 hu with hu | hu
    · exact a.K_one h0 u hu
    · exact b.K_one h1 u hu
  K_below := by
    rintro w w1 x cs hb ⟨c0, c1, rfl, h0, h1⟩
    exact ⟨c0, c1, rfl, a.K_below hb h0, b.K_below hb h1⟩
  K_of_M := by
    rintro w base ok x cs ⟨c0, c1, rfl, h0, h1⟩
    exact ⟨c0, c1, rfl, a.K_of_M h0, b.K_of_M h1⟩
  M_mono := by
    rintro w base ok ok' x cs hok ⟨c0, c1, rfl, h0, h1⟩
    exact ⟨c0, c1, rfl, a.M_mono hok h0, b.M_mono hok h1⟩
  M_bound := by
    rintro w base ok x cs ⟨c0, c1, rfl, h0, h1⟩
    refine ⟨c0, c1, rfl, a.M_mono ?_ (a.M_bound h0), b.M_mono ?_ (b.M_bound h1)⟩
    · rintro k ⟨h2, h3, h4, q, hq, hc⟩
      exact ⟨h2, h3, h4, q, List.mem_append_left _ hq, hc⟩
    · rintro k ⟨h2, h3, h4, q, hq, hc⟩
      exact ⟨h2, h3, h4, q, List.mem_append_right _ hq, hc⟩
  M_move := by
    rintro w w1 base ok x cs hm ⟨c0, c1, rfl, h0, h1⟩
    exact ⟨c0, c1, rfl, a.M_move hm h0, b.M_move hm h1⟩
  M_lower := by
    rintro w base base' ok x cs hb ⟨c0, c1, rfl, h0, h1⟩
    exact ⟨c0, c1, rfl, a.M_lower hb h0, b.M_lower hb h1⟩
def iso {α β : Type} (d : Kd α) (f : β → α) : Kd β where
  sz := d.sz
  E := d.E
  K := fun w x cs => d.K w (f x) cs
  M := fun w base ok x cs => d.M w base ok (f x) cs
  K_len := d.K_len
  K_one := d.K_one
  K_below := d.K_below
  K_of_M := d.K_of_M
  M_mono := d.M_mono
  M_bound := d.M_bound
  M_move := d.M_move
  M_lower := d.M_lower
def bot {α : Type} (sz : Nat) (E : List Nat) : Kd α where
  sz := sz
  E := E
  K := fun _ _ _ => False
  M := fun _ _ _ _ _ => False
  K_len := fun h => h.elim
  K_one := fun h => h.elim
  K_below := fun _ h => h
  K_of_M := fun h => h
  M_mono := fun _ h => h
  M_bound := fun h => h
  M_move := fun _ h => h
  M_lower := fun _ h => h
def upto {α : Type} (F : Kd α → Kd α) (sz : Nat) (E : List Nat) : Nat → Kd α
  | 0 => bot sz E
  | n + 1 => F (upto F sz E n)
def fix {α : Type} (F : Kd α → Kd α) (sz : Nat) (E : List Nat) (hs : ∀ n, (upto F sz E n).sz = sz) (hE : ∀ n q, q ∈ (upto F sz E n).E → q ∈ E) : Kd α where
  sz := sz
  E := E
  K := fun w x cs => ∃ n, (upto F sz E n).K w x cs
  M := fun w base ok x cs => ∃ n, (upto F sz E n).M w base ok x cs
  K_len := by
    rintro w x cs ⟨n, h⟩
    rw [(upto F sz E n).K_len h, hs n]
  K_one := by
    rintro w x cs ⟨n, h⟩
    exact (upto F sz E n).K_one h
  K_below := by
    rintro w w1 x cs hb ⟨n, h⟩
    exact ⟨n, (upto F sz E n).K_below hb h⟩
  K_of_M := by
    rintro w base ok x cs ⟨n, h⟩
    exact ⟨n, (upto F sz E n).K_of_M h⟩
  M_mono := by
    rintro w base ok ok' x cs hok ⟨n, h⟩
    exact ⟨n, (upto F sz E n).M_mono hok h⟩
  M_bound := by
    rintro w base ok x cs ⟨n, h⟩
    refine ⟨n, (upto F sz E n).M_mono ?_ ((upto F sz E n).M_bound h)⟩
    rintro k ⟨h2, h3, h4, q, hq, hc⟩
    exact ⟨h2, h3, h4, q, hE n q hq, hc⟩
  M_move := by
    rintro w w1 base ok x cs hm ⟨n, h⟩
    exact ⟨n, (upto F sz E n).M_move hm h⟩
  M_lower := by
    rintro w base base' ok x cs hb ⟨n, h⟩
    exact ⟨n, (upto F sz E n).M_lower hb h⟩
theorem C_get {α : Type} {d : Kd α} {w : World} {A : Option Addr} {n : Nat} {xs : List α} (h : d.C w A n xs) (z : α) (i : Int) (h0 : 0 ≤ i) (h1 : i < n) :
    ∃ ad c, A = some ad ∧ c.length = d.sz ∧ d.K w (xs.getD i.toNat z) c ∧ ∀ j u, c[j]? = some u → w.cell? (ad.add (i.toNat * d.sz + j)) = some u := ReadsRow.get_ h z i h0 h1
theorem R_appended {α : Type} {d : Kd α} {e base : Nat} {ok okp : Nat → Prop} {W w1 : World} {v v1 : Value} {xs : List α} {p : α} {inner cs : List Value} (h0 : ∀ k, v.ownBlock = some k → ok k) (hr : Reps (d.M W base (fun k => ok k ∧ some k ≠ v.ownBlock)) d.sz xs inner) (hp : d.M W base okp p cs) (hokp : ∀ k, okp k → ok k ∧ some k ≠ v.ownBlock) (hfresh : ∀ k, W.heap.size ≤ k → ok k)
    (hown : w1.ownsRow base e d.sz v1 (xs.length + 1) (inner ++ cs)) (hg : W.grownBy w1 v.ownBlock) (hat : v1.ownBlock = v.ownBlock ∨ ∃ b, v1.ownBlock = some b ∧ W.heap.size ≤ b) : d.R e w1 base ok v1 (xs ++ [p]) := by
  have hne : ∀ k, some k ≠ v.ownBlock → k < W.heap.size → some k ≠ v1.ownBlock := by
    intro k hk hlt
    rcases hat with hat | ⟨b, hb, hle⟩
    · rw [hat]; exact hk
    · rw [hb]
      intro he
      injection he with he
      omega
  have step : ∀ {q : α} {c : List Value} {o : Nat → Prop}, d.M W base o q c → (∀ k, o k → ok k ∧ some k ≠ v.ownBlock) → d.M w1 base (fun k => ok k ∧ some k ≠ v1.ownBlock) q c := by
    intro q c o hq ho
    have h1 := d.M_move (w1 := w1) (fun k hk => hg.block k hk.2.2.1 (ho k hk.1).2) (d.M_bound hq)
    exact d.M_mono (fun k hk => ⟨(ho k hk.1).1, hne k (ho k hk.1).2 hk.2.2.1⟩) h1
  refine ⟨fun k hk => ?_, inner ++ cs, by rw [List.length_append, List.length_singleton]; exact hown, ?_⟩
  · rcases hat with hat | ⟨b, hb, hle⟩
    · exact h0 k (hat ▸ hk)
    · rw [hb] at hk
      injection hk with hk
      exact hfresh k (by omega)
  · exact (hr.imp_ (fun _ _ hq => step hq (fun _ hk => hk))).snoc (step hp hokp) (d.K_len (d.K_of_M hp))
section
variable {P : Program} {ops : Array Oper} {rest : List Oper} {o : Oper} {a : Act} {Q : Exit → Act → World → Prop} {α : Type}
theorem R_append (d : Kd α) {w0 W : World} (base : Nat) (hgd : o.guard = none) (s x : Operand) (t e : TypeId) (z : Value) (bytes : Nat)
    (ho : o.op = .call { callee := .builtin .append, args := #[s, x], argTypes := #[t, t] })
    (ht : P.underlying t = some (.slice e)) (hinfo : (P.info? e).map (fun i => (i.zero, i.size, i.bytes)) = some (some z, d.sz, bytes)) (hz : z.cells.size = d.sz) (hs0 : 0 < d.sz) (hb0 : 0 < bytes)
    (v : Value) (xs : List α) (p : α) (cs : List Value) (ok okp : Nat → Prop) (hs : a.eval s = v) (hx : a.eval x = .slice (some ⟨W.heap.size, 0, none⟩) 1 1) (hp : d.M W base okp p cs) (hokp : ∀ k, okp k → ok k ∧ some k ≠ v.ownBlock) (hfresh : ∀ k, W.heap.size ≤ k → ok k)
    (HO : d.R e W base ok v xs) (HB : Below base w0 W) (hbase : base ≤ W.heap.size) (hl : (xs.length + 1) * bytes ≤ 140737488355328)
    (h : ∀ v1 w1, d.R e w1 base ok v1 (xs ++ [p]) → Below base w0 w1 → W.grownBy w1 v.ownBlock → (v1.ownBlock = v.ownBlock ∨ ∃ b, v1.ownBlock = some b ∧ W.heap.size ≤ b) → wpList P ops Q rest (a.put o.dst v1) w1) :
    wpList P ops Q (o :: rest) a (W.alloc (.cells cs.toArray e)) := by
  obtain ⟨h0, inner, hown, hr⟩ := HO
  refine print_append_cells base hgd s x t e z d.sz bytes ho ht hinfo hz hs0 hb0 v xs.length inner cs hs hx (d.K_len (d.K_of_M hp)) (d.K_one (d.K_of_M hp)) hown HB hbase hl ?_
  intro v1 w1 hown1 hb1 hg1 hat1
  exact h v1 w1 (R_appended h0 hr hp hokp hfresh hown1 hg1 hat1) hb1 hg1 hat1
end
section
variable {P : Program} {ops : Array Oper} {o : Oper} {a : Act} {Q : Exit → Act → World → Prop} {Kc : Act → World → Prop} {α : Type}
theorem R_append_step (d : Kd α) {w0 W : World} (base : Nat) (hw : Region.wanted o (yielded ops a.tmps) = true) (s x : Operand) (t e : TypeId) (z : Value) (bytes : Nat)
    (ho : o.op = .call { callee := .builtin .append, args := #[s, x], argTypes := #[t, t] })
    (ht : P.underlying t = some (.slice e)) (hinfo : (P.info? e).map (fun i => (i.zero, i.size, i.bytes)) = some (some z, d.sz, bytes)) (hz : z.cells.size = d.sz) (hs0 : 0 < d.sz) (hb0 : 0 < bytes)
    (v : Value) (xs : List α) (p : α) (cs : List Value) (ok okp : Nat → Prop) (hs : a.eval s = v) (hx : a.eval x = .slice (some ⟨W.heap.size, 0, none⟩) 1 1) (hp : d.M W base okp p cs) (hokp : ∀ k, okp k → ok k ∧ some k ≠ v.ownBlock) (hfresh : ∀ k, W.heap.size ≤ k → ok k)
    (HO : d.R e W base ok v xs) (HB : Below base w0 W) (hbase : base ≤ W.heap.size) (hl : (xs.length + 1) * bytes ≤ 140737488355328)
    (h : ∀ v1 w1, d.R e w1 base ok v1 (xs ++ [p]) → Below base w0 w1 → W.grownBy w1 v.ownBlock → (v1.ownBlock = v.ownBlock ∨ ∃ b, v1.ownBlock = some b ∧ W.heap.size ≤ b) → Kc (a.put o.dst v1) w1) :
    if Region.wanted o (yielded ops a.tmps) = true then Oper.wp P o a (W.alloc (.cells cs.toArray e)) Kc Q else Kc (a.put o.dst undef) (W.alloc (.cells cs.toArray e)) := by
  obtain ⟨h0, inner, hown, hr⟩ := HO
  refine step_append_cells base hw s x t e z d.sz bytes ho ht hinfo hz hs0 hb0 v xs.length inner cs hs hx (d.K_len (d.K_of_M hp)) (d.K_one (d.K_of_M hp)) hown HB hbase hl ?_
  intro v1 w1 hown1 hb1 hg1 hat1
  exact h v1 w1 (R_appended h0 hr hp hokp hfresh hown1 hg1 hat1) hb1 hg1 hat1
end
theorem reads_of_C {α : Type} {enc : α → Value} {d : α} {h1 : ∀ x, (enc x).oneCell' = true} {w : World} {A : Option Addr} {n : Nat} {xs : List α} (h : (scalar enc h1).C w A n xs) : ReadsOf enc d w A n xs := by
  refine ⟨h.1, h.2.1, fun hn => ?_⟩
  obtain ⟨ad, e, hc⟩ := h.2.2 hn
  refine ⟨ad, e, fun j hj => ?_⟩
  have hl : j < xs.length := by have := h.1; omega
  obtain ⟨c, _, hK, hcell⟩ := hc j _ (List.getElem?_eq_getElem hl)
  have hK' : c = [enc xs[j]] := hK
  subst hK'
  have := hcell 0 _ rfl
  simpa [scalar, List.getD_eq_getElem?_getD, List.getElem?_eq_getElem hl] using this
end Kd
namespace Kd
structure Mono {α β : Type} (F : Kd α → Kd β) : Prop where
  sz : ∀ d d' : Kd α, d.sz = d'.sz → (F d).sz = (F d').sz
  K : ∀ d d' : Kd α, d.sz = d'.sz → (∀ w x cs, d.K w x cs → d'.K w x cs) → ∀ w x cs, (F d).K w x cs → (F d').K w x cs
  M : ∀ d d' : Kd α, d.sz = d'.sz → (∀ w base ok x cs, d.M w base ok x cs → d'.M w base ok x cs) → ∀ w base ok x cs, (F d).M w base ok x cs → (F d').M w base ok x cs
theorem mono_const {α β : Type} (k : Kd β) : Mono (fun _ : Kd α => k) := ⟨fun _ _ _ => rfl, fun _ _ _ _ _ _ _ h => h, fun _ _ _ _ _ _ _ _ _ h => h⟩
theorem mono_id {α : Type} : Mono (fun d : Kd α => d) := ⟨fun _ _ h => h, fun _ _ _ h => h, fun _ _ _ h => h⟩
theorem C_imp {α : Type} {d d' : Kd α} (hs : d.sz = d'.sz) (h : ∀ w x cs, d.K w x cs → d'.K w x cs) {w : World} {A : Option Addr} {n : Nat} {xs : List α} (hc : d.C w A n xs) : d'.C w A n xs := by
  unfold C at hc ⊢
  rw [← hs]
  exact hc.imp_ (Below.refl _ _) (fun _ _ hp => h _ _ _ hp)
theorem R_imp {α : Type} {d d' : Kd α} (hs : d.sz = d'.sz) (h : ∀ w base ok x cs, d.M w base ok x cs → d'.M w base ok x cs) {e : Nat} {w : World} {base : Nat} {ok : Nat → Prop} {v : Value} {xs : List α} (hr : d.R e w base ok v xs) : d'.R e w base ok v xs := by
  unfold R at hr ⊢
  rw [← hs]
  exact ⟨hr.1, hr.2.imp_ (fun _ _ hp => h _ _ _ _ _ hp)⟩
theorem mono_slice {α β : Type} (e : Nat) {G : Kd α → Kd β} (hG : Mono G) : Mono (fun d => slice e (G d)) := by
  refine ⟨fun _ _ _ => rfl, ?_, ?_⟩
  · rintro d d' hs h w x cs ⟨A, c, rfl, hl, hr⟩
    exact ⟨A, c, rfl, hl, C_imp (hG.sz d d' hs) (hG.K d d' hs h) hr⟩
  · rintro d d' hs h w base ok x cs ⟨v, rfl, hr⟩
    exact ⟨v, rfl, R_imp (hG.sz d d' hs) (hG.M d d' hs h) hr⟩
theorem mono_pair {α β γ : Type} {G : Kd α → Kd β} {H : Kd α → Kd γ} (hG : Mono G) (hH : Mono H) : Mono (fun d => pair (G d) (H d)) := by
  refine ⟨fun d d' hs => ?_, ?_, ?_⟩
  · show (G d).sz + (H d).sz = (G d').sz + (H d').sz
    rw [hG.sz d d' hs, hH.sz d d' hs]
  · rintro d d' hs h w x cs ⟨c0, c1, rfl, h0, h1⟩
    exact ⟨c0, c1, rfl, hG.K d d' hs h _ _ _ h0, hH.K d d' hs h _ _ _ h1⟩
  · rintro d d' hs h w base ok x cs ⟨c0, c1, rfl, h0, h1⟩
    exact ⟨c0, c1, rfl, hG.M d d' hs h _ _ _ _ _ h0, hH.M d d' hs h _ _ _ _ _ h1⟩
theorem mono_iso {α β γ : Type} {G : Kd α → Kd β} (f : γ → β) (hG : Mono G) : Mono (fun d => iso (G d) f) :=
  ⟨hG.sz, fun d d' hs h w x cs => hG.K d d' hs h w (f x) cs, fun d d' hs h w base ok x cs => hG.M d d' hs h w base ok (f x) cs⟩
def Sub {α β : Type} (F : Kd α → Kd β) (E : List Nat) : Prop := ∀ d : Kd α, (∀ q, q ∈ d.E → q ∈ E) → ∀ q, q ∈ (F d).E → q ∈ E
theorem sub_const {α β : Type} {E : List Nat} (k : Kd β) (h : ∀ q, q ∈ k.E → q ∈ E) : Sub (fun _ : Kd α => k) E := fun _ _ => h
theorem sub_id {α : Type} {E : List Nat} : Sub (fun d : Kd α => d) E := fun _ h => h
theorem sub_slice {α β : Type} {E : List Nat} (e : Nat) {G : Kd α → Kd β} (he : e ∈ E) (hG : Sub G E) : Sub (fun d => slice e (G d)) E := fun d h q hq => by
  rcases List.mem_cons.1 hq with rfl | hq
  · exact he
  · exact hG d h q hq
theorem sub_pair {α β γ : Type} {E : List Nat} {G : Kd α → Kd β} {H : Kd α → Kd γ} (hG : Sub G E) (hH : Sub H E) : Sub (fun d => pair (G d) (H d)) E := fun d h q hq => by
  rcases List.mem_append.1 hq with hq | hq
  · exact hG d h q hq
  · exact hH d h q hq
theorem sub_iso {α β γ : Type} {E : List Nat} {G : Kd α → Kd β} (f : γ → β) (hG : Sub G E) : Sub (fun d => iso (G d) f) E := hG
theorem upto_E {α : Type} {F : Kd α → Kd α} {sz : Nat} {E : List Nat} (h : Sub F E) : ∀ n q, q ∈ (upto F sz E n).E → q ∈ E
  | 0, _, hq => hq
  | n + 1, q, hq => h _ (upto_E h n) q hq
theorem upto_sz {α : Type} {F : Kd α → Kd α} {sz : Nat} {E : List Nat} (h : ∀ d : Kd α, (F d).sz = sz) : ∀ n, (upto F sz E n).sz = sz
  | 0 => rfl
  | _ + 1 => h _
section
variable {α : Type} {F : Kd α → Kd α} {sz : Nat} {E : List Nat} {hs : ∀ n, (upto F sz E n).sz = sz} {hE : ∀ n q, q ∈ (upto F sz E n).E → q ∈ E}
theorem upto_K (hm : Mono F) (hs : ∀ n, (upto F sz E n).sz = sz) : ∀ n {w x cs}, (upto F sz E n).K w x cs → (upto F sz E (n + 1)).K w x cs
  | 0, _, _, _, h => h.elim
  | n + 1, _, _, _, h => hm.K _ _ (by rw [hs n, hs (n + 1)]) (fun _ _ _ hk => upto_K hm hs n hk) _ _ _ h
theorem upto_K_le (hm : Mono F) (hs : ∀ n, (upto F sz E n).sz = sz) {n m : Nat} (hnm : n ≤ m) {w x cs} (h : (upto F sz E n).K w x cs) : (upto F sz E m).K w x cs := by
  obtain ⟨j, rfl⟩ := Nat.exists_eq_add_of_le hnm
  induction j with
  | zero => exact h
  | succ j ih => exact upto_K hm hs _ (ih (by omega))
theorem fix_C {n : Nat} {w : World} {A : Option Addr} {m : Nat} {xs : List α} (h : (upto F sz E n).C w A m xs) : (fix F sz E hs hE).C w A m xs := C_imp (d' := fix F sz E hs hE) (hs n) (fun w x cs hp => (⟨n, hp⟩ : ∃ n, (upto F sz E n).K w x cs)) h
theorem bounded {P : Nat → Nat → Prop} (hP : ∀ n m j, n ≤ m → P n j → P m j) : ∀ m, (∀ j, j < m → ∃ n, P n j) → ∃ N, ∀ j, j < m → P N j
  | 0, _ => ⟨0, fun j hj => absurd hj (Nat.not_lt_zero j)⟩
  | m + 1, h => by
    obtain ⟨N, hN⟩ := bounded hP m (fun j hj => h j (by omega))
    obtain ⟨n, hn⟩ := h m (by omega)
    refine ⟨max N n, fun j hj => ?_⟩
    rcases Nat.lt_or_ge j m with hj' | hj'
    · exact hP N _ j (Nat.le_max_left _ _) (hN j hj')
    · have : j = m := by omega
      subst this
      exact hP n _ j (Nat.le_max_right _ _) hn
theorem fix_C_back (hm : Mono F) {w : World} {A : Option Addr} {m : Nat} {xs : List α} (h : (fix F sz E hs hE).C w A m xs) : ∃ n, (upto F sz E n).C w A m xs := by
  rcases Nat.eq_zero_or_pos m with hz | hpos
  · subst hz
    exact ⟨0, h.1, h.2.1, fun hp => absurd hp (Nat.lt_irrefl 0)⟩
  · obtain ⟨ad, e, hc⟩ := h.2.2 hpos
    obtain ⟨N, hN⟩ := bounded (P := fun n j => ∀ p, xs[j]? = some p → ∃ c, c.length = sz ∧ (upto F sz E n).K w p c ∧ ∀ i u, c[i]? = some u → w.cell? (ad.add (j * sz + i)) = some u)
      (fun n n' j hnm hp p hj => by
        obtain ⟨c, h1, h2, h3⟩ := hp p hj
        exact ⟨c, h1, upto_K_le hm hs hnm h2, h3⟩) xs.length
      (fun j hj => by
        obtain ⟨c, h1, ⟨n, h2⟩, h3⟩ := hc j _ (List.getElem?_eq_getElem hj)
        refine ⟨n, fun p hp => ?_⟩
        rw [List.getElem?_eq_getElem hj] at hp
        injection hp with hp
        rw [← hp]
        exact ⟨c, h1, h2, h3⟩)
    refine ⟨N, h.1, h.2.1, fun _ => ⟨ad, e, fun j p hj => ?_⟩⟩
    rw [hs N]
    exact hN j (List.getElem?_eq_some_iff.1 hj).1 p hj
theorem upto_C_le (hm : Mono F) (hs : ∀ n, (upto F sz E n).sz = sz) {n m : Nat} (hnm : n ≤ m) {w : World} {A : Option Addr} {l : Nat} {xs : List α} (h : (upto F sz E n).C w A l xs) : (upto F sz E m).C w A l xs := C_imp (by rw [hs n, hs m]) (fun _ _ _ hp => upto_K_le hm hs hnm hp) h
end
end Kd
namespace Kd
theorem R_after {α : Type} {d : Kd α} {e base : Nat} {ok : Nat → Prop} {W w1 : World} {u v v1 : Value} {xs : List α} (h : d.R e W base (fun k => ok k ∧ some k ≠ v.ownBlock) u xs) (hg : W.grownBy w1 v.ownBlock) (hat : v1.ownBlock = v.ownBlock ∨ ∃ b, v1.ownBlock = some b ∧ W.heap.size ≤ b) : d.R e w1 base (fun k => ok k ∧ some k ≠ v1.ownBlock) u xs := by
  refine R_mono (R_move (R_bound h) (fun k hk => hg.block k hk.2.2.1 hk.1.2)) (fun k hk => ⟨hk.1.1, ?_⟩)
  rcases hat with hat | ⟨b, hb, hle⟩
  · rw [hat]; exact hk.1.2
  · rw [hb]
    intro he
    injection he with he
    have := hk.2.2.1
    omega
end Kd
namespace Kd
section
variable {α β : Type} {d : Kd α} {d' : Kd β} {e e' : Nat} {w w1 W : World} {base b b' : Nat} {ok ok' okv oku : Nat → Prop} {v u : Value} {xs : List α} {ys : List β}
theorem R_drewN (h : d.R e w base ok v xs) (m : Nat) : d.R e (w.drewN m) base ok v xs := R_below h (pw_below_drewN (Below.refl _ _) m)
theorem C_drew {A : Option Addr} {n : Nat} (h : d.C w A n xs) : d.C w.drew A n xs := C_below h (below_drew (Below.refl _ _))
theorem C_nil (d : Kd α) (w : World) : d.C w none ([] : List α).length [] := ⟨rfl, by simp, fun h => absurd h (Nat.lt_irrefl 0)⟩
theorem R_reads' {A : Option Addr} {n c : Nat} (h : d.R e w base ok (.slice A n c) xs) : n = xs.length ∧ n ≤ c ∧ d.C w A xs.length xs := by
  obtain ⟨A', c', he, hl, hr⟩ := R_reads h
  injection he with h1 h2 h3
  subst h1
  exact ⟨h2, by omega, hr⟩
theorem R_lt (h : d.R e w base ok v xs) : ∀ k, v.ownBlock = some k → k < w.heap.size := by
  obtain ⟨inner, ho⟩ := R_own h
  exact own_lt ho
theorem R_base (h : d.R e w base ok v xs) : ∀ k, v.ownBlock = some k → base ≤ k := by
  obtain ⟨inner, ho⟩ := R_own h
  exact own_base ho
theorem R_form (h : d.R e w base ok v xs) (hp : 0 < xs.length) : ∃ g cap, v = .slice (some ⟨g, 0, none⟩) xs.length cap ∧ base ≤ g ∧ g < w.heap.size ∧ ∃ cells, w.heap[g]? = some (.cells cells e (0, 0)) := by
  obtain ⟨inner, ho⟩ := R_own h
  obtain ⟨g, cap, he, hb, hl⟩ := ho.form hp
  obtain ⟨cells, hc⟩ := own_typed ho g (by rw [he]; simp [Value.ownBlock])
  exact ⟨g, cap, he, hb, hl, cells, hc⟩
end
section
variable {w W : World} {A : Option Addr} {n : Nat}
theorem at_int {k : IntKind} {xs : List Int} (h : (Kd.int k).C w A n xs) (i : Int) (h0 : 0 ≤ i) (h1 : i < n) : ∃ ad, A = some ad ∧ w.cell? (ad.add i.toNat) = some (.int k (rd xs i)) :=
  ReadsOf.at_ (reads_of_C (enc := Value.int k) (d := (0 : Int)) (h1 := fun _ => rfl) h) i h0 h1
variable {α : Type} {enc : α → Value} {h1 : ∀ x, (enc x).oneCell' = true} {e base g cap : Nat} {ok : Nat → Prop} {xs : List α}
end
section
variable {P : Program} {ops : Array Oper} {rest : List Oper} {o : Oper} {a : Act} {Q : Exit → Act → World → Prop}
theorem event_run {W w1 : World} {v : Value} (hgd : o.guard = none) (hrun : (execOp a.eval o).run P W = .ok (.value v) w1) (h : wpList P ops Q rest (a.put o.dst v) w1) : wpList P ops Q (o :: rest) a W := by
  refine wpList_plain hgd fun K hK => ?_
  unfold Oper.wp
  rw [hrun]
  exact hK _ _ h
variable {α : Type}
theorem R_lit (d : Kd α) {w0 W : World} (base e : Nat) (hgd : o.guard = none) {N : Tmp} (_hd : o.dst = some N) {xs : List α} {inner : List Value} {ok okp : Nat → Prop}
    (hrun : (execOp a.eval o).run P W = .ok (.value (.slice (some ⟨W.heap.size, 0, none⟩) xs.length xs.length)) (W.alloc (.cells inner.toArray e)))
    (hrep : Reps (d.M W base okp) d.sz xs inner) (hok : ∀ k, okp k → ok k) (hfresh : ok W.heap.size) (HB : Below base w0 W) (hbase : base ≤ W.heap.size) (hm : xs.length ≤ 9223372036854775807)
    (h : ∀ v1 w1, d.R e w1 base ok v1 xs → Below base w0 w1 → W.grownBy w1 none → (∃ b, v1.ownBlock = some b ∧ W.heap.size ≤ b) → wpList P ops Q rest (a.put o.dst v1) w1) : wpList P ops Q (o :: rest) a W := by
  refine event_run hgd hrun (h _ _ ⟨fun k hk => ?_, inner, ?_, ?_⟩ (HB.alloc hbase _) (World.grownBy_alloc W _ none) ⟨W.heap.size, by simp [Value.ownBlock], Nat.le_refl _⟩)
  · have : W.heap.size = k := by simpa [Value.ownBlock] using hk
    subst this
    exact hfresh
  · have h2 := World.ownsRow_lit (base := base) (e := e) (size := d.sz) W inner.toArray xs.length hbase (by simpa [maxLen] using hm) (by simpa using hrep.1)
    simpa using h2
  · refine hrep.imp_ (fun p c hp => d.M_mono (fun k hk => ⟨hok k hk.1, fun he => ?_⟩) (M_below (d.M_bound hp) (below_alloc (Below.refl _ _) _)))
    have h3 : k = W.heap.size := by simpa [Value.ownBlock] using he
    have := hk.2.2.1
    omega
end
end Kd
section
variable {P : Program}
theorem cut_to (t e : TypeId) (kh : IntKind) {i : TypeInfo} (ht : P.underlying t = some (.slice e)) (hi : P.info? e = some i) (A : Option Addr) (n c : Nat) (j : Int) (h0 : 0 ≤ j) (hm : j ≤ n) (hc : n ≤ c) :
    ∀ W : World, (Instr.slice t (.slice A n c) none (some (.int kh j)) none).run P W = .ok (.slice A j.toNat c) W := by
  intro W
  have hel : P.elem t = e := by simp [Program.elem, ht]
  have hu : P.underlying t = some (.slice (P.elem t)) := by rw [hel]; exact ht
  have ha : (A.map fun x => x.add 0) = A := by cases A <;> simp [Addr.add]
  rw [run_slice_h W t A n c hu kh j h0 (by omega), hel]
  simp [sizeOf, typeInfo, hi, sliced, Result.andThen, ha]
theorem cut_from (t e : TypeId) (kl : IntKind) {i : TypeInfo} (ht : P.underlying t = some (.slice e)) (hi : P.info? e = some i) (size : Nat) (hsz : i.size = size) (A : Option Addr) (n c : Nat) (j : Int) (h0 : 0 ≤ j) (hm : j ≤ n) :
    ∀ W : World, (Instr.slice t (.slice A n c) (some (.int kl j)) none none).run P W = .ok (.slice (if c = j.toNat then A else A.map (·.add (j.toNat * size))) (n - j.toNat) (c - j.toNat)) W := by
  intro W
  have hel : P.elem t = e := by simp [Program.elem, ht]
  have hu : P.underlying t = some (.slice (P.elem t)) := by rw [hel]; exact ht
  rw [run_slice_l W t A n c hu kl j h0 hm, hel]
  simp [sizeOf, typeInfo, hi, hsz, sliced, Result.andThen]
end
section
variable {w w1 : World} {base n size : Nat} {e : TypeId} {v : Value} {xs : List Value}
theorem add_at (g o j : Nat) : (⟨g, o, none⟩ : Addr).add j = ⟨g, o + j, none⟩ := by unfold Addr.add; split <;> simp_all
end
section
variable {P : Program}
end
namespace Kd
section
variable {α : Type} {d : Kd α} {e : Nat} {w w1 W : World} {base : Nat} {ok ok' : Nat → Prop} {v : Value} {xs : List α}
end
section
variable {P : Program} {ops : Array Oper} {rest : List Oper} {o : Oper} {a : Act} {Q' : Exit → Act → World → Prop} {Kc : Act → World → Prop} {α : Type}
end
end Kd
namespace Kd
section
variable {α : Type} {d : Kd α} {e e' : Nat} {w w1 W : World} {base : Nat} {ok : Nat → Prop} {u v : Value} {xs : List α}
theorem R_typed (h : d.R e w base ok v xs) : ∀ k, v.ownBlock = some k → ∃ cells, w.heap[k]? = some (.cells cells e (0, 0)) := by
  obtain ⟨inner, ho⟩ := R_own h
  exact fun k hk => own_typed ho k hk
theorem R_apart' (h : d.R e W base ok u xs) (hty : ∀ k, v.ownBlock = some k → ∃ cells, W.heap[k]? = some (.cells cells e' (0, 0))) (ht : ∀ q, q ∈ e :: d.E → q ≠ e') : d.R e W base (fun k => ok k ∧ some k ≠ v.ownBlock) u xs := by
  refine R_mono (R_bound h) (fun k hk => ⟨hk.1, fun he => ?_⟩)
  obtain ⟨_, _, _, q, hq, cells, hc⟩ := hk
  obtain ⟨cells', hc'⟩ := hty k he.symm
  rw [hc] at hc'
  injection hc' with hc'
  injection hc' with _ hc'
  exact ht q hq hc'
theorem R_elder' (hu : d.R e W base ok u xs) (hbase : ∀ k, v.ownBlock = some k → W.heap.size ≤ k) (hb : Below W.heap.size W w1) : d.R e w1 base (fun k => ok k ∧ some k ≠ v.ownBlock) u xs :=
  R_mono (R_move (R_bound hu) (fun k hk => hb.block k hk.2.2.1)) (fun k hk => ⟨hk.1, fun he => by have := hbase k he.symm; have := hk.2.2.1; omega⟩)
theorem fresh' (hlt : ∀ k, u.ownBlock = some k → k < W.heap.size) : ∀ k, W.heap.size ≤ k → some k ≠ u.ownBlock := fun k hk he => by have := hlt k he.symm; omega
end
end Kd
namespace Kd
section
variable {α : Type} {d : Kd α} {e base g n cap : Nat} {ok okp : Nat → Prop} {W : World} {xs : List α}
theorem R_elem (h : d.R e W base ok (.slice (some ⟨g, 0, none⟩) n cap) xs) (z : α) (i : Int) (h0 : 0 ≤ i) (h1 : i < n) :
    ∃ c, c.length = d.sz ∧ d.M W base (fun k => ok k ∧ k ≠ g) (xs.getD i.toNat z) c ∧ (∀ j u, c[j]? = some u → W.cell? ⟨g, i.toNat * d.sz + j, none⟩ = some u) ∧ ∀ j, W.frozen? ⟨g, i.toNat * d.sz + j, none⟩ = false := by
  obtain ⟨hn, hnc, hC⟩ := R_reads' h
  obtain ⟨_, inner, ho, hr⟩ := h
  have hil : i.toNat < xs.length := by omega
  have hseg : i.toNat * d.sz + d.sz ≤ inner.length := by rw [hr.1, ← Nat.succ_mul]; exact Nat.mul_le_mul_right _ hil
  have hM := hr.2 i.toNat _ (List.getElem?_eq_getElem hil)
  refine ⟨(inner.drop (i.toNat * d.sz)).take d.sz, by rw [List.length_take, List.length_drop]; omega, ?_, fun j u hu => ?_, fun j => ?_⟩
  · rw [List.getD_eq_getElem?_getD, List.getElem?_eq_getElem hil]
    exact d.M_mono (fun k hk => ⟨hk.1, fun he => hk.2 (by rw [he]; simp [Value.ownBlock])⟩) hM
  · rw [List.getElem?_take] at hu
    split at hu
    · rw [List.getElem?_drop] at hu
      have := ho.cells (g := g) (by simp [Value.ownBlock]) _ u hu
      rwa [add_plain] at this
    · cases hu
  · obtain ⟨cells, hc⟩ := own_typed ho g (by simp [Value.ownBlock])
    exact blk_frozen hc _
end
end Kd
namespace Kd
section
variable {α : Type} {F : Kd α → Kd α} {sz : Nat} {E : List Nat} {hs : ∀ n, (upto F sz E n).sz = sz} {hE : ∀ n q, q ∈ (upto F sz E n).E → q ∈ E}
end
end Kd
namespace Kd
theorem reps_append {α : Type} {R : α → List Value → Prop} {size : Nat} {ps qs : List α} {cs ds : List Value} (h : Reps R size ps cs) (h' : Reps R size qs ds) : Reps R size (ps ++ qs) (cs ++ ds) := by
  refine ⟨by rw [List.length_append, List.length_append, h.1, h'.1, Nat.add_mul], fun j p hj => ?_⟩
  rcases Nat.lt_or_ge j ps.length with hlt | hge
  · rw [List.getElem?_append_left hlt] at hj
    have hle : j * size + size ≤ cs.length := by rw [h.1, ← Nat.succ_mul]; exact Nat.mul_le_mul_right _ hlt
    rw [List.drop_append_of_le_length (by omega), List.take_append_of_le_length (by rw [List.length_drop]; omega)]
    exact h.2 j p hj
  · rw [List.getElem?_append_right hge] at hj
    have h2 := h'.2 (j - ps.length) p hj
    have hle : ps.length * size ≤ j * size := Nat.mul_le_mul_right _ hge
    rw [List.drop_append, List.drop_eq_nil_of_le (by rw [h.1]; exact hle), List.nil_append, h.1, ← Nat.sub_mul]
    exact h2
section
variable {P : Program} {ops : Array Oper} {rest : List Oper} {o : Oper} {a : Act} {Q : Exit → Act → World → Prop} {α : Type}
theorem R_append_rows (d : Kd α) {Rr : α → List Value → Prop} {w0 W : World} (base : Nat) (hgd : o.guard = none) (s x : Operand) (t e : TypeId) (z : Value) (bytes : Nat)
    (ho : o.op = .call { callee := .builtin .append, args := #[s, x], argTypes := #[t, t] })
    (ht : P.underlying t = some (.slice e)) (hinfo : (P.info? e).map (fun i => (i.zero, i.size, i.bytes)) = some (some z, d.sz, bytes)) (hz : z.cells.size = d.sz) (hs0 : 0 < d.sz) (hb0 : 0 < bytes)
    (v : Value) (xs ys : List α) (A : Option Addr) (m c : Nat) (ok okp : Nat → Prop) (hs : a.eval s = v) (hx : a.eval x = .slice A m c)
    (HO : d.R e W base ok v xs) (HR : ReadsRow Rr d.sz W A m ys) (hKM : ∀ x cs, Rr x cs → d.M W base okp x cs) (hokp : ∀ k, okp k → ok k ∧ some k ≠ v.ownBlock) (hfresh : ∀ k, W.heap.size ≤ k → ok k)
    (HB : Below base w0 W) (hbase : base ≤ W.heap.size) (hl : (xs.length + m) * bytes ≤ 140737488355328)
    (h : ∀ v1 w1, d.R e w1 base ok v1 (xs ++ ys) → Below base w0 w1 → W.grownBy w1 v.ownBlock → (v1.ownBlock = v.ownBlock ∨ ∃ b, v1.ownBlock = some b ∧ W.heap.size ≤ b) → wpList P ops Q rest (a.put o.dst v1) w1) :
    wpList P ops Q (o :: rest) a W := by
  obtain ⟨i0, hi, hzz⟩ := Option.map_eq_some_iff.1 hinfo
  simp only [Prod.mk.injEq] at hzz
  obtain ⟨hz0, hz1, hz2⟩ := hzz
  have hm : ys.length = m := HR.1
  have hlen : xs.length + m ≤ 140737488355328 := Nat.le_trans (Nat.le_mul_of_pos_right _ hb0) hl
  obtain ⟨hok, inner, hown, hr⟩ := HO
  have hrun : ∃ v1 w1, (Builtin.append_ #[t, t] o.type #[v, .slice A m c]).run P W = .ok v1 w1 ∧ d.R e w1 base ok v1 (xs ++ ys) ∧ W.grownBy w1 v.ownBlock ∧ (v1.ownBlock = v.ownBlock ∨ ∃ b, v1.ownBlock = some b ∧ W.heap.size ≤ b) := by
    rcases A with _ | ad
    · have h0 : m = 0 := by
        rcases Nat.eq_zero_or_pos m with h0 | h0
        · exact h0
        · obtain ⟨ad, h, _⟩ := HR.2.2 h0
          cases h
      subst h0
      obtain rfl : ys = [] := List.eq_nil_of_length_eq_zero hm
      refine ⟨v, W, ?_, by rw [List.append_nil]; exact ⟨hok, inner, hown, hr⟩, World.grownBy.refl W _, .inl rfl⟩
      rcases hown.2 with ⟨rfl, hn⟩ | ⟨g, cap, cur, rfl, _, _, hnc, _⟩
      · simp [Builtin.append_, run_underlying ht, sizeOf, typeInfo, hi, Builtin.lenOf, Builtin.firstCells]
      · simp [Builtin.append_, run_underlying ht, sizeOf, typeInfo, hi, Builtin.lenOf, Builtin.firstCells, hnc, storeCells]
    · obtain ⟨news, hnr, hnc⟩ := ReadsRow.inner_ HR
      have hnM : Reps (d.M W base okp) d.sz ys news := hnr.imp_ (fun p c hp => hKM p c hp)
      have hone : ∀ u ∈ news, u.oneCell' = true := by
        intro u hu
        obtain ⟨q, hq, rfl⟩ := List.mem_iff_getElem.1 hu
        have hql : q / d.sz < ys.length := by
          rw [Nat.div_lt_iff_lt_mul hs0]
          rw [← hnM.1]
          exact hq
        have hc := hnM.2 (q / d.sz) _ (List.getElem?_eq_getElem hql)
        refine d.K_one (d.K_of_M hc) _ ?_
        rw [List.mem_iff_getElem?]
        refine ⟨q % d.sz, ?_⟩
        rw [List.getElem?_take, if_pos (Nat.mod_lt _ hs0), List.getElem?_drop, Nat.mul_comm, Nat.div_add_mod, List.getElem?_eq_getElem hq]
      obtain ⟨v1, w1, hrun, h2, hg, _, hat⟩ := run_append_own_at (P := P) W base t o.type e i0 z d.sz bytes ht hi hz0 hz1 hz2 hz hs0 v xs.length inner hown ad m c news (by rw [hnM.1, hm]) hnc hone (by simp only [maxLen]; omega) hl hbase
      have hat' : v1.ownBlock = v.ownBlock ∨ ∃ b, v1.ownBlock = some b ∧ W.heap.size ≤ b := by
        rcases hat with hat | hat
        · exact .inl hat
        · exact .inr ⟨_, hat, Nat.le_refl _⟩
      have hne : ∀ k, some k ≠ v.ownBlock → k < W.heap.size → some k ≠ v1.ownBlock := by
        intro k hk hlt
        rcases hat' with hat | ⟨b, hb, hle⟩
        · rw [hat]; exact hk
        · rw [hb]
          intro he
          injection he with he
          omega
      have step : ∀ {q : α} {c : List Value} {o : Nat → Prop}, d.M W base o q c → (∀ k, o k → ok k ∧ some k ≠ v.ownBlock) → d.M w1 base (fun k => ok k ∧ some k ≠ v1.ownBlock) q c := by
        intro q c o hq ho
        have h1 := d.M_move (w1 := w1) (fun k hk => hg.block k hk.2.2.1 (ho k hk.1).2) (d.M_bound hq)
        exact d.M_mono (fun k hk => ⟨(ho k hk.1).1, hne k (ho k hk.1).2 hk.2.2.1⟩) h1
      refine ⟨v1, w1, hrun, ⟨fun k hk => ?_, inner ++ news, by rw [List.length_append, hm]; exact h2, reps_append (hr.imp_ (fun _ _ hq => step hq (fun _ hk => hk))) (hnM.imp_ (fun _ _ hq => step hq hokp))⟩, hg, hat'⟩
      rcases hat' with hat | ⟨b, hb, hle⟩
      · exact hok k (hat ▸ hk)
      · rw [hb] at hk
        injection hk with hk
        exact hfresh k (by omega)
  obtain ⟨v1, w1, hr1, h1, hg, hat⟩ := hrun
  refine wpList_plain hgd fun K hK => ?_
  unfold Oper.wp execOp
  simp only [ho, resolve, invoke, builtin, Sem.run_bind, Sem.run_pure, Result.andThen_ok, List.map_toArray, List.map_cons, List.map_nil, hs, hx, hr1]
  exact hK _ _ (h v1 w1 h1 (HB.grown hg hbase (own_base hown)) hg hat)
end
end Kd
namespace Kd
section
variable {P : Program} {ops : Array Oper} {rest : List Oper} {o : Oper} {a : Act} {Q : Exit → Act → World → Prop} {α : Type}
end
end Kd
theorem add_add (a : Addr) (i j : Nat) : (a.add i).add j = a.add (i + j) := by
  unfold Addr.add
  by_cases h1 : i = 0 <;> by_cases h2 : j = 0 <;> simp [h1, h2, Nat.add_assoc]
namespace Kd
section
variable {α : Type} {k : Kd α} {w : World} {A : Option Addr} {xs : List α} {m c : Nat}
theorem C_take (h : k.C w A xs.length xs) (hm : m ≤ xs.length) : k.C w A (xs.take m).length (xs.take m) := by
  have hl : (xs.take m).length = m := by rw [List.length_take]; omega
  refine ⟨rfl, by rw [hl]; have := h.2.1; omega, fun hp => ?_⟩
  obtain ⟨ad, e, hc⟩ := h.2.2 (by omega)
  refine ⟨ad, e, fun j p hj => hc j p ?_⟩
  rw [List.getElem?_take] at hj
  split at hj
  · exact hj
  · cases hj
theorem C_drop (h : k.C w A xs.length xs) (hm : m ≤ xs.length) (hc : xs.length ≤ c) : k.C w (if c = m then A else A.map (·.add (m * k.sz))) (xs.drop m).length (xs.drop m) := by
  have hl : (xs.drop m).length = xs.length - m := List.length_drop
  refine ⟨rfl, by rw [hl]; have := h.2.1; omega, fun hp => ?_⟩
  rw [hl] at hp
  obtain ⟨ad, rfl, hcell⟩ := h.2.2 (by omega)
  rw [if_neg (by omega)]
  refine ⟨ad.add (m * k.sz), rfl, fun j p hj => ?_⟩
  rw [List.getElem?_drop] at hj
  obtain ⟨cs, h1, h2, h3⟩ := hcell (m + j) p hj
  refine ⟨cs, h1, h2, fun i u hu => ?_⟩
  rw [add_add, show m * k.sz + (j * k.sz + i) = (m + j) * k.sz + i by rw [Nat.add_mul]; omega]
  exact h3 i u hu
end
end Kd
section
variable {P : Program}
end
theorem below_size {w W : World} (h : Below w.heap.size w W) : w.heap.size ≤ W.heap.size := h.size
theorem below_step {w W w2 : World} (h : Below w.heap.size w W) (k : Below W.heap.size W w2) : Below w.heap.size w w2 := below_then h h.size k
theorem below_set {w W : World} {g j : Nat} {v : Value} (h : Below w.heap.size w W) (hg : w.heap.size ≤ g) : Below w.heap.size w (W.setCell ⟨g, j, none⟩ v) := h.setCell hg _
theorem add_block (a : Addr) (i : Nat) : (a.add i).block = a.block := by unfold Addr.add; split <;> rfl
theorem cell_far {W : World} {p a : Addr} (h : a.block ≠ p.block) (u : Value) : (W.setCell p u).cell? a = W.cell? a := by
  have := Below.heap_setCell W p u a.block h
  simp [World.cell?, this]
theorem blk_put {w : World} {g : Nat} {t : TypeId} {cs cs' : Array Value} (h : w.heap[g]? = some (.cells cs t (0, 0))) (i : Nat) (u : Value) (e : cs.setIfInBounds i u = cs') : (w.setCell ⟨g, i, none⟩ u).heap[g]? = some (.cells cs' t (0, 0)) := e ▸ blk_set h i u
theorem below_drew1 {base : Nat} {w W : World} (h : Below base w W) : Below base w W.drew := h.drew
namespace Kd
section
variable {α β : Type} {d : Kd α} {d' : Kd β} {e e' base base' n : Nat} {ok ok' : Nat → Prop} {w W w1 W1 : World} {v u : Value} {xs : List α} {ys : List β} {A : Option Addr} {c : Nat}
end
section
variable {α : Type} {enc : α → Value} {h1 : ∀ x, (enc x).oneCell' = true} {w W : World} {A : Option Addr} {n g : Nat} {xs : List α}
end
end Kd
namespace Kd
section
variable {α : Type} {d : Kd α} {e base g : Nat} {ok : Nat → Prop} {w w1 : World} {v : Value} {xs : List α} {o : Obj}
theorem R_newB (h : d.R e w1 w.heap.size ok v xs) (hb : w.heap[g]? = some o) : d.R e w1 w.heap.size (fun k => ok k ∧ k ≠ g) v xs := R_mono (R_bound h) (fun k hk => ⟨hk.1, by have := blk_lt hb; have := hk.2.1; omega⟩)
theorem freshB (hb : w.heap[g]? = some o) : ∀ k, w.heap.size ≤ k → k ≠ g := fun k hk => by have := blk_lt hb; omega
end
end Kd
section
variable {P : Program} {ops : Array Oper} {rest : List Oper} {o : Oper} {a : Act} {Q : Exit → Act → World → Prop}
theorem box_event {W : World} (hgd : o.guard = none) {N : Tmp} (_hd : o.dst = some N) {cs : Array Value} {t : TypeId}
    (hrun : (execOp a.eval o).run P W = .ok (.value (.pointer (some ⟨W.heap.size, 0, none⟩))) (W.alloc (.cells cs t (0, 0))))
    (h : ∀ g, g = W.heap.size → ∀ w1, w1.heap[g]? = some (.cells cs t (0, 0)) → Below W.heap.size W w1 → wpList P ops Q rest (a.put o.dst (.pointer (some ⟨g, 0, none⟩))) w1) : wpList P ops Q (o :: rest) a W :=
  Kd.event_run hgd hrun (h _ rfl _ (blk_new W _) (below_alloc (Below.refl _ _) _))
end
namespace Kd
section
variable {α : Type} {enc : α → Value} {h1 : ∀ x, (enc x).oneCell' = true} {e base g n cap : Nat} {ok : Nat → Prop} {W : World} {xs : List α}
end
end Kd
section
variable {P : Program} {ops : Array Oper} {rest : List Oper} {o : Oper} {a : Act} {Q : Exit → Act → World → Prop}
end
namespace Kd
section
variable {α : Type} {enc : α → Value} {h1 : ∀ x, (enc x).oneCell' = true} {e base g n cap : Nat} {ok : Nat → Prop} {W : World} {xs : List α}
end
end Kd
section
variable {P : Program} {ops : Array Oper} {rest : List Oper} {o : Oper} {a : Act} {Q : Exit → Act → World → Prop} {W : World}
theorem gate_dst {N : Tmp} (_hN : o.dst = some N) (h : wpList P ops Q (o :: rest) a W) : wpList P ops Q (o :: rest) a W := h
end
section
variable {P : Program} {ops : Array Oper} {o : Oper} {a : Act} {Q : Exit → Act → World → Prop} {Kc : Act → World → Prop}
theorem event_step {W w1 : World} {v : Value} (hw : Region.wanted o (yielded ops a.tmps) = true) (hrun : (execOp a.eval o).run P W = .ok (.value v) w1) (h : Kc (a.put o.dst v) w1) : if Region.wanted o (yielded ops a.tmps) = true then Oper.wp P o a W Kc Q else Kc (a.put o.dst undef) W := by
  rw [if_pos hw]
  unfold Oper.wp
  rw [hrun]
  exact h
theorem box_step {W : World} (hw : Region.wanted o (yielded ops a.tmps) = true) {N : Tmp} (_hd : o.dst = some N) {cs : Array Value} {t : TypeId}
    (hrun : (execOp a.eval o).run P W = .ok (.value (.pointer (some ⟨W.heap.size, 0, none⟩))) (W.alloc (.cells cs t (0, 0))))
    (h : ∀ g, g = W.heap.size → ∀ w1, w1.heap[g]? = some (.cells cs t (0, 0)) → Below W.heap.size W w1 → Kc (a.put o.dst (.pointer (some ⟨g, 0, none⟩))) w1) : if Region.wanted o (yielded ops a.tmps) = true then Oper.wp P o a W Kc Q else Kc (a.put o.dst undef) W :=
  event_step hw hrun (h _ rfl _ (blk_new W _) (below_alloc (Below.refl _ _) _))
namespace Kd
variable {α : Type}
theorem R_lit_step (d : Kd α) {w0 W : World} (base e : Nat) (hw : Region.wanted o (yielded ops a.tmps) = true) {N : Tmp} (_hd : o.dst = some N) {xs : List α} {inner : List Value} {ok okp : Nat → Prop}
    (hrun : (execOp a.eval o).run P W = .ok (.value (.slice (some ⟨W.heap.size, 0, none⟩) xs.length xs.length)) (W.alloc (.cells inner.toArray e)))
    (hrep : Reps (d.M W base okp) d.sz xs inner) (hok : ∀ k, okp k → ok k) (hfresh : ok W.heap.size) (HB : Below base w0 W) (hbase : base ≤ W.heap.size) (hm : xs.length ≤ 9223372036854775807)
    (h : ∀ v1 w1, d.R e w1 base ok v1 xs → Below base w0 w1 → W.grownBy w1 none → (∃ b, v1.ownBlock = some b ∧ W.heap.size ≤ b) → Kc (a.put o.dst v1) w1) : if Region.wanted o (yielded ops a.tmps) = true then Oper.wp P o a W Kc Q else Kc (a.put o.dst undef) W := by
  refine event_step hw hrun (h _ _ ⟨fun k hk => ?_, inner, ?_, ?_⟩ (HB.alloc hbase _) (World.grownBy_alloc W _ none) ⟨W.heap.size, by simp [Value.ownBlock], Nat.le_refl _⟩)
  · have : W.heap.size = k := by simpa [Value.ownBlock] using hk
    subst this
    exact hfresh
  · have h2 := World.ownsRow_lit (base := base) (e := e) (size := d.sz) W inner.toArray xs.length hbase (by simpa [maxLen] using hm) (by simpa using hrep.1)
    simpa using h2
  · refine hrep.imp_ (fun p c hp => d.M_mono (fun k hk => ⟨hok k hk.1, fun he => ?_⟩) (M_below (d.M_bound hp) (below_alloc (Below.refl _ _) _)))
    have h3 : k = W.heap.size := by simpa [Value.ownBlock] using he
    have := hk.2.2.1
    omega
theorem R_append_rows_step (d : Kd α) {Rr : α → List Value → Prop} {w0 W : World} (base : Nat) (hw : Region.wanted o (yielded ops a.tmps) = true) (s x : Operand) (t e : TypeId) (z : Value) (bytes : Nat)
    (ho : o.op = .call { callee := .builtin .append, args := #[s, x], argTypes := #[t, t] })
    (ht : P.underlying t = some (.slice e)) (hinfo : (P.info? e).map (fun i => (i.zero, i.size, i.bytes)) = some (some z, d.sz, bytes)) (hz : z.cells.size = d.sz) (hs0 : 0 < d.sz) (hb0 : 0 < bytes)
    (v : Value) (xs ys : List α) (A : Option Addr) (m c : Nat) (ok okp : Nat → Prop) (hs : a.eval s = v) (hx : a.eval x = .slice A m c)
    (HO : d.R e W base ok v xs) (HR : ReadsRow Rr d.sz W A m ys) (hKM : ∀ x cs, Rr x cs → d.M W base okp x cs) (hokp : ∀ k, okp k → ok k ∧ some k ≠ v.ownBlock) (hfresh : ∀ k, W.heap.size ≤ k → ok k)
    (HB : Below base w0 W) (hbase : base ≤ W.heap.size) (hl : (xs.length + m) * bytes ≤ 140737488355328)
    (h : ∀ v1 w1, d.R e w1 base ok v1 (xs ++ ys) → Below base w0 w1 → W.grownBy w1 v.ownBlock → (v1.ownBlock = v.ownBlock ∨ ∃ b, v1.ownBlock = some b ∧ W.heap.size ≤ b) → Kc (a.put o.dst v1) w1) :
    if Region.wanted o (yielded ops a.tmps) = true then Oper.wp P o a W Kc Q else Kc (a.put o.dst undef) W := by
  obtain ⟨i0, hi, hzz⟩ := Option.map_eq_some_iff.1 hinfo
  simp only [Prod.mk.injEq] at hzz
  obtain ⟨hz0, hz1, hz2⟩ := hzz
  have hm : ys.length = m := HR.1
  have hlen : xs.length + m ≤ 140737488355328 := Nat.le_trans (Nat.le_mul_of_pos_right _ hb0) hl
  obtain ⟨hok, inner, hown, hr⟩ := HO
  have hrun : ∃ v1 w1, (Builtin.append_ #[t, t] o.type #[v, .slice A m c]).run P W = .ok v1 w1 ∧ d.R e w1 base ok v1 (xs ++ ys) ∧ W.grownBy w1 v.ownBlock ∧ (v1.ownBlock = v.ownBlock ∨ ∃ b, v1.ownBlock = some b ∧ W.heap.size ≤ b) := by
    rcases A with _ | ad
    · have h0 : m = 0 := by
        rcases Nat.eq_zero_or_pos m with h0 | h0
        · exact h0
        · obtain ⟨ad, h, _⟩ := HR.2.2 h0
          cases h
      subst h0
      obtain rfl : ys = [] := List.eq_nil_of_length_eq_zero hm
      refine ⟨v, W, ?_, by rw [List.append_nil]; exact ⟨hok, inner, hown, hr⟩, World.grownBy.refl W _, .inl rfl⟩
      rcases hown.2 with ⟨rfl, hn⟩ | ⟨g, cap, cur, rfl, _, _, hnc, _⟩
      · simp [Builtin.append_, run_underlying ht, sizeOf, typeInfo, hi, Builtin.lenOf, Builtin.firstCells]
      · simp [Builtin.append_, run_underlying ht, sizeOf, typeInfo, hi, Builtin.lenOf, Builtin.firstCells, hnc, storeCells]
    · obtain ⟨news, hnr, hnc⟩ := ReadsRow.inner_ HR
      have hnM : Reps (d.M W base okp) d.sz ys news := hnr.imp_ (fun p c hp => hKM p c hp)
      have hone : ∀ u ∈ news, u.oneCell' = true := by
        intro u hu
        obtain ⟨q, hq, rfl⟩ := List.mem_iff_getElem.1 hu
        have hql : q / d.sz < ys.length := by
          rw [Nat.div_lt_iff_lt_mul hs0]
          rw [← hnM.1]
          exact hq
        have hc := hnM.2 (q / d.sz) _ (List.getElem?_eq_getElem hql)
        refine d.K_one (d.K_of_M hc) _ ?_
        rw [List.mem_iff_getElem?]
        refine ⟨q % d.sz, ?_⟩
        rw [List.getElem?_take, if_pos (Nat.mod_lt _ hs0), List.getElem?_drop, Nat.mul_comm, Nat.div_add_mod, List.getElem?_eq_getElem hq]
      obtain ⟨v1, w1, hrun, h2, hg, _, hat⟩ := run_append_own_at (P := P) W base t o.type e i0 z d.sz bytes ht hi hz0 hz1 hz2 hz hs0 v xs.length inner hown ad m c news (by rw [hnM.1, hm]) hnc hone (by simp only [maxLen]; omega) hl hbase
      have hat' : v1.ownBlock = v.ownBlock ∨ ∃ b, v1.ownBlock = some b ∧ W.heap.size ≤ b := by
        rcases hat with hat | hat
        · exact .inl hat
        · exact .inr ⟨_, hat, Nat.le_refl _⟩
      have hne : ∀ k, some k ≠ v.ownBlock → k < W.heap.size → some k ≠ v1.ownBlock := by
        intro k hk hlt
        rcases hat' with hat | ⟨b, hb, hle⟩
        · rw [hat]; exact hk
        · rw [hb]
          intro he
          injection he with he
          omega
      have step : ∀ {q : α} {c : List Value} {o : Nat → Prop}, d.M W base o q c → (∀ k, o k → ok k ∧ some k ≠ v.ownBlock) → d.M w1 base (fun k => ok k ∧ some k ≠ v1.ownBlock) q c := by
        intro q c o hq ho
        have h1 := d.M_move (w1 := w1) (fun k hk => hg.block k hk.2.2.1 (ho k hk.1).2) (d.M_bound hq)
        exact d.M_mono (fun k hk => ⟨(ho k hk.1).1, hne k (ho k hk.1).2 hk.2.2.1⟩) h1
      refine ⟨v1, w1, hrun, ⟨fun k hk => ?_, inner ++ news, by rw [List.length_append, hm]; exact h2, reps_append (hr.imp_ (fun _ _ hq => step hq (fun _ hk => hk))) (hnM.imp_ (fun _ _ hq => step hq hokp))⟩, hg, hat'⟩
      rcases hat' with hat | ⟨b, hb, hle⟩
      · exact hok k (hat ▸ hk)
      · rw [hb] at hk
        injection hk with hk
        exact hfresh k (by omega)
  obtain ⟨v1, w1, hr1, h1, hg, hat⟩ := hrun
  rw [if_pos hw]
  unfold Oper.wp execOp
  simp only [ho, resolve, invoke, builtin, Sem.run_bind, Sem.run_pure, Result.andThen_ok, List.map_toArray, List.map_cons, List.map_nil, hs, hx, hr1]
  exact h v1 w1 h1 (HB.grown hg hbase (own_base hown)) hg hat
end Kd
end
section
variable {P : Program} {tmps : Array Value} {w : World}
end
namespace Kd
section
variable {P : Program} {α : Type}
end
section
variable {P : Program} {ops : Array Oper} {rest : List Oper} {o : Oper} {a : Act} {Q : Exit → Act → World → Prop} {Kc : Act → World → Prop} {α : Type}
end
end Kd
end Go.Proofs.YthkclagcbjnckaaW.PrintWords


namespace Go.Proofs.YthkclagcbjnckaaW.PrintLast
section
variable {P : Program} {ops : Array Oper} {Q : Exit → Act → World → Prop} {md : Region.Mode} {S : World → Prop} {ds : List Nat}
def Region.reachB (md : Region.Mode) (ops : Array Oper) (i : Nat) : Nat → Nat → Bool
  | 0, _ => false
  | fuel + 1, d => match ops[d]? with
    | some o => o.after.any fun e => Region.binds md e && (e.on == i || Region.reachB md ops i fuel e.on)
    | none => false
def Region.closedB (md : Region.Mode) (ops : Array Oper) (listed : Array Bool) : Bool :=
  (List.range ops.size).all fun j => !listed.getD j false || match ops[j]? with
    | some o => o.after.all fun e => !Region.binds md e || listed.getD e.on false
    | none => true
def Region.lastB (md : Region.Mode) (ops : Array Oper) (listed : Array Bool) (ds : List Nat) (i : Nat) : Bool :=
  ds.all fun d => listed.getD d true || Region.reachB md ops i ops.size d
def ListedClosed (md : Region.Mode) (ops : Array Oper) (listed : Array Bool) : Prop :=
  ∀ j oj, ops[j]? = some oj → listed.getD j false = true → ∀ e ∈ oj.after, Region.binds md e = true → listed.getD e.on false = true
theorem Region.closedB_spec {listed : Array Bool} (h : Region.closedB md ops listed = true) : ListedClosed md ops listed := by
  intro j oj hj hl e he hb
  have hlt : j < ops.size := (Array.getElem?_eq_some_iff.1 hj).1
  have h1 := List.all_eq_true.1 h j (List.mem_range.2 hlt)
  simp only [hl, hj, Bool.not_true, Bool.false_or] at h1
  have h2 := Array.all_eq_true_iff_forall_mem.1 h1 e he
  simpa [hb] using h2
theorem ListedClosed.set {listed : Array Bool} {i : Nat} (h : ListedClosed md ops listed) (hi : i ∈ Region.ready md ops listed) : ListedClosed md ops (listed.setIfInBounds i true) := by
  obtain ⟨_, oi, hoi, hall⟩ := mem_ready.1 hi
  intro j oj hj hl e he hb
  by_cases hij : i = j
  · subst hij
    have : oj = oi := Option.some.inj (hj.symm.trans hoi)
    subst this
    exact getD_set_true (hall e he hb)
  · rw [getD_set_ne false hij] at hl
    exact getD_set_true (h j oj hj hl e he hb)
theorem Region.reach_listed {listed : Array Bool} {i : Nat} (hc : ListedClosed md ops listed) : ∀ (fuel d : Nat), Region.reachB md ops i fuel d = true → listed.getD d false = true → listed.getD i false = true
  | 0, _, h, _ => by simp [Region.reachB] at h
  | fuel + 1, d, h, hl => by
    unfold Region.reachB at h
    cases ho : ops[d]? with
    | none => rw [ho] at h; simp at h
    | some o =>
      rw [ho] at h
      obtain ⟨e, he, h1⟩ := Array.any_eq_true'.1 h
      simp only [Bool.and_eq_true, Bool.or_eq_true, beq_iff_eq] at h1
      have hle := hc d o ho hl e he h1.1
      rcases h1.2 with h2 | h2
      · rw [← h2]; exact hle
      · exact Region.reach_listed hc fuel e.on h2 hle
theorem Region.reach_not_ready {listed : Array Bool} {i d fuel : Nat} (hc : ListedClosed md ops listed) (hr : Region.reachB md ops i fuel d = true) (hun : listed.getD i true = false) : d ∉ Region.ready md ops listed := by
  intro hd
  obtain ⟨_, o, ho, hall⟩ := mem_ready.1 hd
  have hi : listed.getD i false = true := by
    cases fuel with
    | zero => simp [Region.reachB] at hr
    | succ n =>
      unfold Region.reachB at hr
      rw [ho] at hr
      obtain ⟨e, he, h1⟩ := Array.any_eq_true'.1 hr
      simp only [Bool.and_eq_true, Bool.or_eq_true, beq_iff_eq] at h1
      have hle := hall e he h1.1
      rcases h1.2 with h2 | h2
      · rw [← h2]; exact hle
      · exact Region.reach_listed hc n e.on h2 hle
  rcases Nat.lt_or_ge i listed.size with h' | h'
  · simp [h'] at hun hi
    rw [hun] at hi
    cases hi
  · simp [Array.getElem?_eq_none h'] at hun
def wpAnyLast (P : Program) (md : Region.Mode) (ops : Array Oper) (Q : Exit → Act → World → Prop) (S : World → Prop) (ds : List Nat) : Nat → Array Bool → Act → World → Prop
  | 0, listed, a, w => Region.ready md ops listed = [] ∧ Q .normal a w
  | fuel + 1, listed, a, w =>
    (Region.ready md ops listed = [] → Q .normal a w) ∧
    ∀ i ∈ Region.ready md ops listed, wpOp P ops Q i (fun a' w' => (i ∉ ds → S w → S w') ∧ wpAnyLast P md ops Q S ds fuel (listed.setIfInBounds i true) a' w') a w
theorem wpAny_of_last : ∀ (fuel : Nat) (listed : Array Bool) (a : Act) (w : World), wpAnyLast P md ops Q S ds fuel listed a w → wpAny P md ops Q fuel listed a w
  | 0, _, _, _, h => h
  | fuel + 1, _, _, _, h => ⟨h.1, fun i hi => wpOp_mono (fun a' w' h' => wpAny_of_last fuel _ a' w' h'.2) (h.2 i hi)⟩
theorem wpAnyLast_first {i : Nat} {oi : Oper} {v : Value} (hi : ops[i]? = some oi) (hsel : ∀ (j : Nat) (o : Oper) cs b, ops[j]? = some o → o.op ≠ .select cs b)
    (hQ : ∀ c a w, Q (.panic c) (a.put oi.dst v) w → Q (.panic c) a w) (n : Nat) :
    ∀ (fuel : Nat) (listed : Array Bool) (a : Act) (w : World),
      (∀ j oj, ops[j]? = some oj → j ≠ i → listed.getD j true = false → (∀ e ∈ oj.after, Region.binds md e = true → e.on ≠ i) → oi.apart ops oj = true) →
      ListedClosed md ops listed → (∀ d ∈ ds, listed.getD d true = false → Region.reachB md ops i n d = true) →
      i ∈ Region.ready md ops listed → YieldsIf P ops S oi v a → S w →
      wpAnyLast P md ops Q S ds fuel (listed.setIfInBounds i true) (a.put oi.dst v) w → wpAnyLast P md ops Q S ds (fuel + 1) listed a w := by
  intro fuel
  induction fuel with
  | zero =>
    intro listed a w _ _ _ hr hy hS H
    refine ⟨fun h => (by rw [h] at hr; cases hr), fun j hj => ?_⟩
    by_cases hji : j = i
    · subst hji; exact hy.wpOp hi hS ⟨fun _ h => h, H⟩
    · have := ready_mono hj hji
      rw [H.1] at this
      cases this
  | succ fuel ih =>
    intro listed a w hfree hc hd hr hy hS H
    refine ⟨fun h => (by rw [h] at hr; cases hr), fun j hj => ?_⟩
    by_cases hji : j = i
    · subst hji; exact hy.wpOp hi hS ⟨fun _ h => h, H⟩
    · have h1 := H.2 j (ready_mono hj hji)
      obtain ⟨hjun, oj, hoj, hall⟩ := mem_ready.1 hj
      have hiun := (mem_ready.1 hr).1
      have hnot : ∀ e ∈ oj.after, Region.binds md e = true → e.on ≠ i := fun e he hb heq => by
        have h1 := hall e he hb
        rw [heq] at h1
        rcases Nat.lt_or_ge i listed.size with h' | h'
        · simp [h'] at hiun h1; rw [hiun] at h1; cases h1
        · simp [Array.getElem?_eq_none h'] at h1
      have hjd : j ∉ ds := fun hm => Region.reach_not_ready hc (hd j hm hjun) hiun hj
      have h2 := wpOp_putIf hoj (hfree j oj hoj hji hjun hnot) (fun cs b => hsel i oi cs b hi) (fun cs b => hsel j oj cs b hoj) hQ hy h1
      have hfree' : ∀ k ok, ops[k]? = some ok → k ≠ i → (listed.setIfInBounds j true).getD k true = false →
          (∀ e ∈ ok.after, Region.binds md e = true → e.on ≠ i) → oi.apart ops ok = true := fun k ok hk hki hun hno => by
        refine hfree k ok hk hki ?_ hno
        by_cases hjk : j = k
        · subst hjk; exact hjun
        · rw [getD_set_ne true hjk] at hun; exact hun
      have hd' : ∀ d ∈ ds, (listed.setIfInBounds j true).getD d true = false → Region.reachB md ops i n d = true := fun d hm hun => by
        refine hd d hm ?_
        by_cases hjk : j = d
        · subst hjk; exact hjun
        · rw [getD_set_ne true hjk] at hun; exact hun
      refine wpOp_mono (fun a' w' h3 => ⟨h3.2.1, ih (listed.setIfInBounds j true) a' w' hfree' (hc.set hj) hd' (ready_mono hr (Ne.symm hji)) h3.1 (h3.2.1 hjd hS) ?_⟩) h2
      rw [Array.setIfInBounds_comm _ _ hji]
      exact h3.2.2
theorem wpAnyLast_any {i : Nat} {oi : Oper} {v : Value} (hi : ops[i]? = some oi) (hsel : ∀ (j : Nat) (o : Oper) cs b, ops[j]? = some o → o.op ≠ .select cs b)
    (hQ : ∀ c a w, Q (.panic c) (a.put oi.dst v) w → Q (.panic c) a w) :
    ∀ (fuel : Nat) (listed : Array Bool) (a : Act) (w : World),
      (∀ j oj, ops[j]? = some oj → j ≠ i → listed.getD j true = false → (∀ e ∈ oj.after, Region.binds md e = true → e.on ≠ i) → oi.apart ops oj = true) →
      i ∈ Region.ready md ops listed → Yields P ops oi v a →
      wpAnyLast P md ops Q S ds fuel (listed.setIfInBounds i true) (a.put oi.dst v) w → wpAnyLast P md ops Q S ds (fuel + 1) listed a w := by
  intro fuel
  induction fuel with
  | zero =>
    intro listed a w _ hr hy H
    refine ⟨fun h => (by rw [h] at hr; cases hr), fun j hj => ?_⟩
    by_cases hji : j = i
    · subst hji; exact (hy.yieldsIf (S := fun _ => True)).wpOp hi trivial ⟨fun _ h => h, H⟩
    · have := ready_mono hj hji
      rw [H.1] at this
      cases this
  | succ fuel ih =>
    intro listed a w hfree hr hy H
    refine ⟨fun h => (by rw [h] at hr; cases hr), fun j hj => ?_⟩
    by_cases hji : j = i
    · subst hji; exact (hy.yieldsIf (S := fun _ => True)).wpOp hi trivial ⟨fun _ h => h, H⟩
    · have h1 := H.2 j (ready_mono hj hji)
      obtain ⟨hjun, oj, hoj, hall⟩ := mem_ready.1 hj
      have hiun := (mem_ready.1 hr).1
      have hnot : ∀ e ∈ oj.after, Region.binds md e = true → e.on ≠ i := fun e he hb heq => by
        have h1 := hall e he hb
        rw [heq] at h1
        rcases Nat.lt_or_ge i listed.size with h' | h'
        · simp [h'] at hiun h1; rw [hiun] at h1; cases h1
        · simp [Array.getElem?_eq_none h'] at h1
      have h2 := wpOp_put hoj (hfree j oj hoj hji hjun hnot) (fun cs b => hsel i oi cs b hi) (fun cs b => hsel j oj cs b hoj) hQ hy h1
      have hfree' : ∀ k ok, ops[k]? = some ok → k ≠ i → (listed.setIfInBounds j true).getD k true = false →
          (∀ e ∈ ok.after, Region.binds md e = true → e.on ≠ i) → oi.apart ops ok = true := fun k ok hk hki hun hno => by
        refine hfree k ok hk hki ?_ hno
        by_cases hjk : j = k
        · subst hjk; exact hjun
        · rw [getD_set_ne true hjk] at hun; exact hun
      refine wpOp_mono (fun a' w' h3 => ⟨h3.2.1, ih (listed.setIfInBounds j true) a' w' hfree' (ready_mono hr (Ne.symm hji)) h3.1 ?_⟩) h2
      rw [Array.setIfInBounds_comm _ _ hji]
      exact h3.2.2
theorem wpAnyLast_take {i : Nat} {oi : Oper} {v : Value} {fuel : Nat} {listed : Array Bool} {a : Act} {w : World} (hi : ops[i]? = some oi)
    (hs : Region.noSelect ops = true) (hf : Region.free md ops listed i = true) (hr : (Region.ready md ops listed).contains i = true)
    (hc : Region.closedB md ops listed = true) (hl : Region.lastB md ops listed ds i = true)
    (hQ : ∀ c a w, Q (.panic c) (a.put oi.dst v) w → Q (.panic c) a w) (hy : YieldsIf P ops S oi v a) (hS : S w)
    (h : wpAnyLast P md ops Q S ds fuel (listed.setIfInBounds i true) (a.put oi.dst v) w) : wpAnyLast P md ops Q S ds (fuel + 1) listed a w :=
  wpAnyLast_first hi (Region.noSelect_spec hs) hQ ops.size fuel listed a w (Region.free_spec hi hf) (Region.closedB_spec hc)
    (fun d hm hun => by have := List.all_eq_true.1 hl d hm; rw [hun] at this; simpa using this) (by simpa using hr) hy hS h
theorem wpAnyLast_all {rs : List Nat} {fuel : Nat} {listed : Array Bool} {a : Act} {w : World} (hr : Region.ready md ops listed = rs) (hne : rs ≠ [])
    (h : ∀ i ∈ rs, wpOp P ops Q i (fun a' w' => (i ∉ ds → S w → S w') ∧ wpAnyLast P md ops Q S ds fuel (listed.setIfInBounds i true) a' w') a w) : wpAnyLast P md ops Q S ds (fuel + 1) listed a w :=
  ⟨fun h0 => absurd (hr ▸ h0) hne, hr ▸ h⟩
theorem wpAnyLast_done {listed : Array Bool} {a : Act} {w : World} (hr : Region.ready md ops listed = []) (h : Q .normal a w) :
    ∀ fuel, wpAnyLast P md ops Q S ds fuel listed a w
  | 0 => ⟨hr, h⟩
  | _ + 1 => ⟨fun _ => h, by rw [hr]; simp⟩
theorem wp_region_last {id : Nat} {a : Act} {w : World} (hm : P.follows .mixedOrders = true)
    (h : wpAnyLast P .any ops Q S ds ops.size (Array.replicate ops.size false) a { w with drawn := w.drawn + 1 }) : (Code.region id ops true).wp P Q a w :=
  wp_region_any hm (wpAny_of_last _ _ _ _ h)
end
section
variable {P : Program} {ops : Array Oper} {Q : Exit → Act → World → Prop} {md : Region.Mode} {S : World → Prop} {ds : List Nat}
def AllReadyL (P : Program) (md : Region.Mode) (ops : Array Oper) (Q : Exit → Act → World → Prop) (S : World → Prop) (ds : List Nat) (fuel : Nat) (listed : Array Bool) (a : Act) (w : World) (rs : List Nat) : Prop :=
  ∀ i ∈ rs, wpOp P ops Q i (fun a' w' => (i ∉ ds → S w → S w') ∧ wpAnyLast P md ops Q S ds fuel (listed.setIfInBounds i true) a' w') a w
theorem AllReadyL.nil {fuel : Nat} {listed : Array Bool} {a : Act} {w : World} : AllReadyL P md ops Q S ds fuel listed a w [] := fun _ h => by cases h
theorem AllReadyL.cons {fuel : Nat} {listed : Array Bool} {a : Act} {w : World} {i : Nat} {o : Oper} {rs : List Nat} (ho : ops[i]? = some o) (hd : i ∉ ds)
    (h : ∀ K' : Act → World → Prop, Shut (∀ a w, S w → (S w → wpAnyLast P md ops Q S ds fuel (listed.setIfInBounds i true) a w) → K' a w) → if Region.wanted o (yielded ops a.tmps) = true then Oper.wp P o a w K' Q else K' (a.put o.dst undef) w)
    (hs : AllReadyL P md ops Q S ds fuel listed a w rs) : AllReadyL P md ops Q S ds fuel listed a w (i :: rs) := fun j hj => by
  rcases List.mem_cons.1 hj with rfl | hj
  · exact wpOp_step ho (fun K' hK => h K' (fun a w hS hW => hK a w ⟨fun _ _ => hS, hW hS⟩))
  · exact hs j hj
theorem AllReadyL.cons_last {fuel : Nat} {listed : Array Bool} {a : Act} {w : World} {i : Nat} {o : Oper} {rs : List Nat} (ho : ops[i]? = some o) (hd : i ∈ ds)
    (h : ∀ K' : Act → World → Prop, Shut (∀ a w, wpAnyLast P md ops Q S ds fuel (listed.setIfInBounds i true) a w → K' a w) → if Region.wanted o (yielded ops a.tmps) = true then Oper.wp P o a w K' Q else K' (a.put o.dst undef) w)
    (hs : AllReadyL P md ops Q S ds fuel listed a w rs) : AllReadyL P md ops Q S ds fuel listed a w (i :: rs) := fun j hj => by
  rcases List.mem_cons.1 hj with rfl | hj
  · exact wpOp_step ho (fun K' hK => h K' (fun a w hW => hK a w ⟨fun hn => absurd hd hn, hW⟩))
  · exact hs j hj
theorem wpAnyLast_ready {rs : List Nat} {fuel : Nat} {listed : Array Bool} {a : Act} {w : World} (hr : Region.ready md ops listed = rs) (hne : rs ≠ [])
    (h : AllReadyL P md ops Q S ds fuel listed a w rs) : wpAnyLast P md ops Q S ds (fuel + 1) listed a w := wpAnyLast_all hr hne h
theorem start_ {id n : Nat} {a : Act} {w : World} (l : Array Bool) (hm : P.follows .mixedOrders = true) (hn : ops.size = n) (hl : Array.replicate n false = l) (hS : S w.drew)
    (h : S w.drew → wpAnyLast P .any ops Q S ds n l a w.drew) : (Code.region id ops true).wp P Q a w := by
  subst hn
  subst hl
  exact wp_region_last hm (h hS)
def takeB (md : Region.Mode) (ops : Array Oper) (ds : List Nat) (l l' : Array Bool) (i : Nat) : Bool :=
  Region.noSelect ops && Region.free md ops l i && (Region.ready md ops l).contains i && Region.closedB md ops l && Region.lastB md ops l ds i && (l.setIfInBounds i true == l')
theorem take_ {i : Nat} {N : Option Tmp} {oi : Oper} {v : Value} {fuel : Nat} {l : Array Bool} {a : Act} {w : World} (l' : Array Bool) (hi : ops[i]? = some oi) (hN : oi.dst = N) (hc : takeB md ops ds l l' i = true)
    (hQ : ∀ c a w, Q (.panic c) (a.put oi.dst v) w → Q (.panic c) a w) (hy : YieldsIf P ops S oi v a) (hS : S w) {a' : Act} (ha : a.put N v = a')
    (h : wpAnyLast P md ops Q S ds fuel l' a' w) : wpAnyLast P md ops Q S ds (fuel + 1) l a w := by
  subst ha
  subst hN
  simp only [takeB, Bool.and_eq_true, beq_iff_eq] at hc
  obtain ⟨⟨⟨⟨⟨h1, h2⟩, h3⟩, h4⟩, h5⟩, h6⟩ := hc
  subst h6
  exact wpAnyLast_take hi h1 h2 h3 h4 h5 hQ hy hS h
def anyB (md : Region.Mode) (ops : Array Oper) (l l' : Array Bool) (i : Nat) : Bool :=
  Region.noSelect ops && Region.free md ops l i && (Region.ready md ops l).contains i && (l.setIfInBounds i true == l')
theorem pure_ {i : Nat} {N : Option Tmp} {oi : Oper} {v : Value} {fuel : Nat} {l : Array Bool} {a : Act} {w : World} (l' : Array Bool) (hi : ops[i]? = some oi) (hN : oi.dst = N) (hc : anyB md ops l l' i = true)
    (hQ : ∀ c a w, Q (.panic c) (a.put oi.dst v) w → Q (.panic c) a w) (hy : Yields P ops oi v a) {a' : Act} (ha : a.put N v = a')
    (h : wpAnyLast P md ops Q S ds fuel l' a' w) : wpAnyLast P md ops Q S ds (fuel + 1) l a w := by
  subst ha
  subst hN
  simp only [anyB, Bool.and_eq_true, beq_iff_eq] at hc
  obtain ⟨⟨⟨h1, h2⟩, h3⟩, h6⟩ := hc
  subst h6
  exact wpAnyLast_any hi (Region.noSelect_spec h1) hQ fuel l a w (Region.free_spec hi h2) (by simpa using h3) hy h
def readyB (md : Region.Mode) (ops : Array Oper) (l l' : Array Bool) (i : Nat) : Bool := (Region.ready md ops l == [i]) && (l.setIfInBounds i true == l')
theorem one_ {i : Nat} {N : Option Tmp} {oi : Oper} {fuel : Nat} {l : Array Bool} {a : Act} {w : World} (l' : Array Bool) (hi : ops[i]? = some oi) (hN : oi.dst = N) (hc : readyB md ops l l' i = true) (hd : i ∉ ds)
    (h : ∀ K : Act → World → Prop, Shut (∀ a' w', S w' → (S w' → wpAnyLast P md ops Q S ds fuel l' a' w') → K a' w') → if Region.wanted oi (yielded ops a.tmps) = true then Oper.wp P oi a w K Q else K (a.put N undef) w) :
    wpAnyLast P md ops Q S ds (fuel + 1) l a w := by
  subst hN
  simp only [readyB, Bool.and_eq_true, beq_iff_eq] at hc
  obtain ⟨h1, h2⟩ := hc
  subst h2
  exact wpAnyLast_ready h1 (by simp) (AllReadyL.cons hi hd (fun K hK => h K hK) AllReadyL.nil)
theorem last_ {i : Nat} {N : Option Tmp} {oi : Oper} {fuel : Nat} {l : Array Bool} {a : Act} {w : World} (l' : Array Bool) (hi : ops[i]? = some oi) (hN : oi.dst = N) (hc : readyB md ops l l' i = true) (hd : i ∈ ds)
    (h : ∀ K : Act → World → Prop, Shut (∀ a' w', wpAnyLast P md ops Q S ds fuel l' a' w' → K a' w') → if Region.wanted oi (yielded ops a.tmps) = true then Oper.wp P oi a w K Q else K (a.put N undef) w) :
    wpAnyLast P md ops Q S ds (fuel + 1) l a w := by
  subst hN
  simp only [readyB, Bool.and_eq_true, beq_iff_eq] at hc
  obtain ⟨h1, h2⟩ := hc
  subst h2
  exact wpAnyLast_ready h1 (by simp) (AllReadyL.cons_last hi hd (fun K hK => h K hK) AllReadyL.nil)
theorem done_ {l : Array Bool} {a : Act} {w : World} {n : Nat} (hr : (Region.ready md ops l == []) = true) (h : Q .normal a w) : wpAnyLast P md ops Q S ds n l a w := wpAnyLast_done (by simpa using hr) h n
theorem two_ {i j : Nat} {Ni Nj : Option Tmp} {oi oj : Oper} {fuel : Nat} {l : Array Bool} {a : Act} {w : World} (li lj : Array Bool) (hi : ops[i]? = some oi) (hj : ops[j]? = some oj) (hNi : oi.dst = Ni) (hNj : oj.dst = Nj)
    (hc : (Region.ready md ops l == [i, j] && l.setIfInBounds i true == li && l.setIfInBounds j true == lj) = true) (hdi : i ∉ ds) (hdj : j ∉ ds)
    (h1 : ∀ K : Act → World → Prop, Shut (∀ a' w', S w' → (S w' → wpAnyLast P md ops Q S ds fuel li a' w') → K a' w') → if Region.wanted oi (yielded ops a.tmps) = true then Oper.wp P oi a w K Q else K (a.put Ni undef) w)
    (h2 : ∀ K : Act → World → Prop, Shut (∀ a' w', S w' → (S w' → wpAnyLast P md ops Q S ds fuel lj a' w') → K a' w') → if Region.wanted oj (yielded ops a.tmps) = true then Oper.wp P oj a w K Q else K (a.put Nj undef) w) :
    wpAnyLast P md ops Q S ds (fuel + 1) l a w := by
  subst hNi
  subst hNj
  simp only [Bool.and_eq_true, beq_iff_eq] at hc
  obtain ⟨⟨h3, h4⟩, h5⟩ := hc
  subst h4
  subst h5
  exact wpAnyLast_ready h3 (by simp) (AllReadyL.cons hi hdi (fun K hK => h1 K hK) (AllReadyL.cons hj hdj (fun K hK => h2 K hK) AllReadyL.nil))
def putAll : Act → List (Tmp × Value) → Act
  | a, [] => a
  | a, (n, v) :: r => putAll (a.put (some n) v) r
theorem join_ {σ : Type} {fuel : Nat} {l : Array Bool} {a : Act} {w : World} (fuel' : Nat) (l' : Array Bool) (ns : σ → List (Tmp × Value)) (F : σ → World → Prop)
    (hcont : ∀ s w', F s w' → wpAnyLast P md ops Q S ds fuel' l' (putAll a (ns s)) w')
    (h : (∀ s w', F s w' → wpAnyLast P md ops Q S ds fuel' l' (putAll a (ns s)) w') → wpAnyLast P md ops Q S ds fuel l a w) : wpAnyLast P md ops Q S ds fuel l a w := h hcont
theorem norm_ {fuel : Nat} {l : Array Bool} {a a' : Act} {w : World} (ha : a = a') (h : wpAnyLast P md ops Q S ds fuel l a' w) : wpAnyLast P md ops Q S ds fuel l a w := by
  subst ha
  exact h
theorem call_ {oi : Oper} {N : Option Tmp} {a : Act} {w : World} {K : Act → World → Prop} (f : FuncId) (args : Array Value) (hw : Region.wanted oi (yielded ops a.tmps) = true) (hN : oi.dst = N) (hrun : (execOp a.eval oi).run P w = .ok (.enter f args) w)
    (h : Calls P f args w fun e w' => ∃ v, e = .returned v ∧ K (a.put N v) w') : if Region.wanted oi (yielded ops a.tmps) = true then Oper.wp P oi a w K Q else K (a.put N undef) w := by
  rw [if_pos hw]
  subst hN
  unfold Oper.wp
  rw [hrun, Oper.upon_enter]
  refine h.mono fun e w'' hh => ?_
  obtain ⟨v, rfl, hk⟩ := hh
  exact hk
theorem enters_ {f : FuncId} {fn : Func} (hf : P.funcs[f]? = some fn) (hname : (fn.name == "runtime.NumGoroutine") = false) (hb : fn.body.isSome = true) (args : Array Value) (w : World) : (callFunc f args).run P w = .ok (.enter f args) w := by
  have h1 : fn.name ≠ "runtime.NumGoroutine" := by simpa using hname
  obtain ⟨c, hc⟩ := Option.isSome_iff_exists.1 hb
  simp [callFunc, hf, h1, hc]
theorem goes_ {oi : Oper} {N : Option Tmp} {a : Act} {w : World} {K : Act → World → Prop} {f : FuncId} {fn : Func} {as_ : Array Operand} {ts : Array TypeId} (hf : P.funcs[f]? = some fn) (hname : (fn.name == "runtime.NumGoroutine") = false) (hb : fn.body.isSome = true) (args : Array Value)
    (hw : Region.wanted oi (yielded ops a.tmps) = true) (hN : oi.dst = N) (hop : oi.op = .call { callee := .value (.func f), args := as_, argTypes := ts }) (hargs : as_.map a.eval = args)
    (h : Calls P f args w fun e w' => ∃ v, e = .returned v ∧ K (a.put N v) w') : if Region.wanted oi (yielded ops a.tmps) = true then Oper.wp P oi a w K Q else K (a.put N undef) w := by
  refine call_ f args hw hN ?_ h
  have he := enters_ hf hname hb args w
  unfold execOp
  simp [hop, resolve, Deferred.ofValue, invoke, Act.eval, hargs, he]
theorem goesL_ {rest : List Oper} {oi : Oper} {a : Act} {w : World} (N : Option Tmp) (hd : oi.dst = N) (hg : oi.guard = none) {f : FuncId} {fn : Func} {as_ : Array Operand} {ts : Array TypeId} (hf : P.funcs[f]? = some fn) (hname : (fn.name == "runtime.NumGoroutine") = false) (hb : fn.body.isSome = true) (args : Array Value)
    (hop : oi.op = .call { callee := .value (.func f), args := as_, argTypes := ts }) (hargs : as_.map a.eval = args)
    (h : Calls P f args w fun e w' => ∃ v, e = .returned v ∧ wpList P ops Q rest (a.put N v) w') : wpList P ops Q (oi :: rest) a w := by
  refine wpList_plain hg fun K hK => ?_
  have he := enters_ hf hname hb args w
  have hrun : (execOp a.eval oi).run P w = .ok (.enter f args) w := by
    unfold execOp
    simp [hop, resolve, Deferred.ofValue, invoke, Act.eval, hargs, he]
  unfold Oper.wp
  rw [hrun, Oper.upon_enter]
  refine h.mono fun e w'' hh => ?_
  obtain ⟨v, rfl, hk⟩ := hh
  subst hd
  exact hK _ _ hk
theorem value_ {oi : Oper} {N : Option Tmp} {a : Act} {w w1 : World} {v : Value} {K : Act → World → Prop} (hw : Region.wanted oi (yielded ops a.tmps) = true) (hN : oi.dst = N) (hrun : (execOp a.eval oi).run P w = .ok (.value v) w1)
    (h : K (a.put N v) w1) : if Region.wanted oi (yielded ops a.tmps) = true then Oper.wp P oi a w K Q else K (a.put N undef) w := by
  rw [if_pos hw]
  subst hN
  unfold Oper.wp
  rw [hrun]
  exact h
theorem skip_ {oi : Oper} {a : Act} {w w1 : World} {K : Act → World → Prop} (hw : Region.wanted oi (yielded ops a.tmps) = true) (hN : oi.dst = none) (hrun : (execOp a.eval oi).run P w = .ok .skip w1)
    (h : K a w1) : if Region.wanted oi (yielded ops a.tmps) = true then Oper.wp P oi a w K Q else K (a.put none undef) w := by
  rw [if_pos hw]
  unfold Oper.wp
  rw [hrun]
  show K (a.put oi.dst undef) w1
  rw [hN]
  exact h
theorem i64_w (n : Int) : IntKind.i64.wrap n = Go.RowKit.wrap64 n := by unfold Go.RowKit.wrap64; exact IntKind.wrap_i64 n
theorem i32_w (n : Int) : IntKind.i32.wrap n = Go.RowKit.wrap32 n := by unfold Go.RowKit.wrap32; exact IntKind.wrap_i32 n
end
end Go.Proofs.YthkclagcbjnckaaW.PrintLast


namespace Go.Proofs.YthkclagcbjnckaaW.PrintLast
open Go.Proofs.YthkclagcbjnckaaW.PrintWords (Aside0)
def needsOf (md : Region.Mode) (o : Oper) : List Nat := (o.after.toList.filter (fun e => Region.binds md e)).map (fun e => e.on)
def clashOf (md : Region.Mode) (ops : Array Oper) (i : Nat) (oi : Oper) : List Nat := (List.range ops.size).filter fun j => !(j == i) && match ops[j]? with
  | some oj => !(oj.after.any (fun e => Region.binds md e && e.on == i) || oi.apart ops oj)
  | none => false
def rtab (md : Region.Mode) (ops : Array Oper) : Bool × List (List Nat × List Nat) := (Region.noSelect ops, (List.range ops.size).map fun i => match ops[i]? with
  | some o => (needsOf md o, clashOf md ops i o)
  | none => ([], []))
def readyAt (T : List (List Nat × List Nat)) (l : List Bool) (i : Nat) : Bool := !l.getD i true && match T[i]? with
  | some r => r.1.all (fun j => l.getD j false)
  | none => false
def readyT (T : List (List Nat × List Nat)) (l : List Bool) : List Nat := (List.range T.length).filter (readyAt T l)
def freeT (T : List (List Nat × List Nat)) (l : List Bool) (i : Nat) : Bool := match T[i]? with
  | some r => r.2.all (fun j => l.getD j true)
  | none => false
def closedT (T : List (List Nat × List Nat)) (l : List Bool) : Bool := (List.range T.length).all fun j => !l.getD j false || match T[j]? with
  | some r => r.1.all (fun k => l.getD k false)
  | none => true
def reachT (T : List (List Nat × List Nat)) (i : Nat) : Nat → Nat → Bool
  | 0, _ => false
  | fuel + 1, d => match T[d]? with
    | some r => r.1.any fun j => j == i || reachT T i fuel j
    | none => false
def lastT (T : List (List Nat × List Nat)) (l : List Bool) (ds : List Nat) (i : Nat) : Bool := ds.all fun d => l.getD d true || reachT T i T.length d
section
variable {md : Region.Mode} {ops : Array Oper} {T : Bool × List (List Nat × List Nat)} {l l' li lj lk : Array Bool} {ds : List Nat} {i j k : Nat}
theorem gd (l : Array Bool) (j : Nat) (b : Bool) : l.getD j b = l.toList.getD j b := by simp [Array.getD_eq_getD_getElem?, List.getD_eq_getElem?_getD]
theorem needs_all (o : Oper) (p : Nat → Bool) : o.after.all (fun e => !Region.binds md e || p e.on) = (needsOf md o).all p := by
  unfold needsOf
  rw [← Array.all_toList]
  induction o.after.toList with
  | nil => rfl
  | cons e r ih =>
    rw [List.all_cons, ih, List.filter_cons]
    cases h : Region.binds md e <;> simp
theorem needs_any (o : Oper) (p : Nat → Bool) : o.after.any (fun e => Region.binds md e && p e.on) = (needsOf md o).any p := by
  unfold needsOf
  rw [← Array.any_toList]
  induction o.after.toList with
  | nil => rfl
  | cons e r ih =>
    rw [List.any_cons, ih, List.filter_cons]
    cases h : Region.binds md e <;> simp
theorem rtab_length : (rtab md ops).2.length = ops.size := by simp [rtab]
theorem rtab_some {o : Oper} (h : ops[i]? = some o) : (rtab md ops).2[i]? = some (needsOf md o, clashOf md ops i o) := by
  have hi := (Array.getElem?_eq_some_iff.1 h).1
  unfold rtab
  rw [List.getElem?_map, List.getElem?_range hi, Option.map_some, h]
theorem rtab_none (h : ops[i]? = none) : (rtab md ops).2[i]? = none := by
  have hi : ops.size ≤ i := Array.getElem?_eq_none_iff.1 h
  exact List.getElem?_eq_none (by rw [rtab_length]; exact hi)
theorem readyAt_eq : readyAt (rtab md ops).2 l.toList i = (!l.getD i true && ((ops[i]?).map (·.after.all fun e => !Region.binds md e || l.getD e.on false)).getD false) := by
  unfold readyAt
  rw [gd]
  cases h : ops[i]? with
  | none => rw [rtab_none h]; rfl
  | some o =>
    rw [rtab_some h]
    simp only [Option.map_some, Option.getD_some]
    rw [← needs_all]
    simp only [gd]
theorem ready_eq : Region.ready md ops l = readyT (rtab md ops).2 l.toList := by
  unfold Region.ready readyT
  rw [rtab_length]
  refine List.filter_congr (fun i _ => ?_)
  rw [readyAt_eq]
theorem free_eq : Region.free md ops l i = freeT (rtab md ops).2 l.toList i := by
  unfold Region.free freeT
  cases h : ops[i]? with
  | none => rw [rtab_none h]
  | some oi =>
    rw [rtab_some h]
    simp only [clashOf]
    rw [List.all_filter]
    congr 1
    funext j
    rw [gd]
    cases hj : ops[j]? with
    | none => cases (j == i) <;> cases (l.toList.getD j true) <;> simp
    | some oj =>
      cases (j == i) <;> cases (l.toList.getD j true) <;> cases (oj.after.any (fun e => Region.binds md e && e.on == i) || oi.apart ops oj) <;> simp_all
theorem closed_eq : Region.closedB md ops l = closedT (rtab md ops).2 l.toList := by
  unfold Region.closedB closedT
  rw [rtab_length]
  congr 1
  funext j
  rw [gd]
  cases h : ops[j]? with
  | none => rw [rtab_none h]
  | some o =>
    rw [rtab_some h]
    simp only
    rw [← needs_all]
    simp only [gd]
theorem reach_eq : ∀ (fuel d : Nat), Region.reachB md ops i fuel d = reachT (rtab md ops).2 i fuel d
  | 0, _ => rfl
  | fuel + 1, d => by
    unfold Region.reachB reachT
    cases h : ops[d]? with
    | none => rw [rtab_none h]
    | some o =>
      rw [rtab_some h]
      simp only
      rw [← needs_any]
      congr 1
      funext e
      rw [reach_eq fuel]
theorem last_eq : Region.lastB md ops l ds i = lastT (rtab md ops).2 l.toList ds i := by
  unfold Region.lastB lastT
  rw [rtab_length]
  congr 1
  funext d
  rw [gd, reach_eq]
theorem readyAt_mem (h : readyAt T.2 l.toList i = true) (hT : rtab md ops = T) : (Region.ready md ops l).contains i = true := by
  subst hT
  rw [ready_eq]
  unfold readyT
  rw [List.contains_iff_mem, List.mem_filter, List.mem_range]
  refine ⟨?_, h⟩
  unfold readyAt at h
  rw [Bool.and_eq_true] at h
  cases hq : (rtab md ops).2[i]? with
  | none => rw [hq] at h; simp at h
  | some r => exact (List.getElem?_eq_some_iff.1 hq).1
theorem set_of (h : (l.toList.set i true == l'.toList) = true) : (l.setIfInBounds i true == l') = true := by
  rw [beq_iff_eq] at h ⊢
  apply Array.ext'
  rw [Array.toList_setIfInBounds]
  exact h
def anyT (T : Bool × List (List Nat × List Nat)) (l l' : List Bool) (i : Nat) : Bool := T.1 && freeT T.2 l i && readyAt T.2 l i && (l.set i true == l')
theorem any_of (hT : rtab md ops = T) (h : anyT T l.toList l'.toList i = true) : anyB md ops l l' i = true := by
  simp only [anyT, Bool.and_eq_true] at h
  obtain ⟨⟨⟨h1, h2⟩, h3⟩, h4⟩ := h
  have h5 := readyAt_mem h3 hT
  have h6 := set_of h4
  subst hT
  simp only [anyB, Bool.and_eq_true]
  exact ⟨⟨⟨h1, by rw [free_eq]; exact h2⟩, h5⟩, h6⟩
def takeT (T : Bool × List (List Nat × List Nat)) (ds : List Nat) (l l' : List Bool) (i : Nat) : Bool := T.1 && freeT T.2 l i && readyAt T.2 l i && closedT T.2 l && lastT T.2 l ds i && (l.set i true == l')
theorem take_of (hT : rtab md ops = T) (h : takeT T ds l.toList l'.toList i = true) : takeB md ops ds l l' i = true := by
  simp only [takeT, Bool.and_eq_true] at h
  obtain ⟨⟨⟨⟨⟨h1, h2⟩, h3⟩, h4⟩, h5⟩, h6⟩ := h
  have h7 := readyAt_mem h3 hT
  have h8 := set_of h6
  subst hT
  simp only [takeB, Bool.and_eq_true]
  exact ⟨⟨⟨⟨⟨h1, by rw [free_eq]; exact h2⟩, h7⟩, by rw [closed_eq]; exact h4⟩, by rw [last_eq]; exact h5⟩, h8⟩
theorem one_of (hT : rtab md ops = T) (h : (readyT T.2 l.toList == [i] && l.toList.set i true == l'.toList) = true) : readyB md ops l l' i = true := by
  simp only [Bool.and_eq_true] at h
  obtain ⟨h1, h2⟩ := h
  subst hT
  simp only [readyB, Bool.and_eq_true]
  exact ⟨by rw [ready_eq]; exact h1, set_of h2⟩
theorem two_of (hT : rtab md ops = T) (h : (readyT T.2 l.toList == [i, j] && l.toList.set i true == li.toList && l.toList.set j true == lj.toList) = true) : (Region.ready md ops l == [i, j] && l.setIfInBounds i true == li && l.setIfInBounds j true == lj) = true := by
  simp only [Bool.and_eq_true] at h ⊢
  obtain ⟨⟨h1, h2⟩, h3⟩ := h
  subst hT
  exact ⟨⟨by rw [ready_eq]; exact h1, set_of h2⟩, set_of h3⟩
theorem done_of (hT : rtab md ops = T) (h : (readyT T.2 l.toList == []) = true) : (Region.ready md ops l == []) = true := by
  subst hT
  rw [ready_eq]
  exact h
def upM (B : List Nat) (d : Nat) : List Nat → Nat
  | [] => 0
  | n :: r => (2 ^ n ||| (if n < d then B.getD n 0 else 0)) ||| upM B d r
def waitsOk (T : List (List Nat × List Nat)) (B : List Nat) : Bool := (List.range T.length).all fun d => match T[d]? with
  | some r => (B.getD d 0 ||| upM B d r.1) == upM B d r.1
  | none => false
theorem upM_bit {B : List Nat} {d i : Nat} : ∀ {ns : List Nat}, (upM B d ns).testBit i = true → ∃ n ∈ ns, n = i ∨ (n < d ∧ (B.getD n 0).testBit i = true)
  | [], h => by simp [upM] at h
  | n :: r, h => by
    unfold upM at h
    rw [Nat.testBit_or, Nat.testBit_or, Bool.or_eq_true, Bool.or_eq_true] at h
    rcases h with (h | h) | h
    · rw [Nat.testBit_two_pow] at h
      exact ⟨n, List.mem_cons_self, .inl (by simpa using h)⟩
    · by_cases hn : n < d
      · rw [if_pos hn] at h
        exact ⟨n, List.mem_cons_self, .inr ⟨hn, h⟩⟩
      · rw [if_neg hn] at h
        simp at h
    · obtain ⟨m, hm, h2⟩ := upM_bit h
      exact ⟨m, List.mem_cons_of_mem _ hm, h2⟩
theorem reach_bit {T : List (List Nat × List Nat)} {B : List Nat} (hB : waitsOk T B = true) : ∀ (fuel d : Nat), d < fuel → d < T.length → (B.getD d 0).testBit i = true → reachT T i fuel d = true
  | 0, d, h, _, _ => by omega
  | fuel + 1, d, h, hd, hb => by
    have h1 := List.all_eq_true.1 hB d (List.mem_range.2 hd)
    cases hr : T[d]? with
    | none => rw [hr] at h1; simp at h1
    | some r =>
      rw [hr] at h1
      simp only [beq_iff_eq] at h1
      have h2 : (upM B d r.1).testBit i = true := by rw [← h1, Nat.testBit_or, hb, Bool.true_or]
      obtain ⟨n, hn, h3⟩ := upM_bit h2
      unfold reachT
      rw [hr]
      simp only
      rw [List.any_eq_true]
      refine ⟨n, hn, ?_⟩
      rcases h3 with rfl | ⟨h4, h5⟩
      · simp
      · rw [reach_bit hB fuel n (by omega) (by omega) h5, Bool.or_true]
def lastW (T : List (List Nat × List Nat)) (B : List Nat) (l : List Bool) (ds : List Nat) (i : Nat) : Bool := ds.all fun d => l.getD d true || (decide (d < T.length) && (B.getD d 0).testBit i)
def takeW (T : Bool × List (List Nat × List Nat)) (B : List Nat) (ds : List Nat) (l l' : List Bool) (i : Nat) : Bool := T.1 && freeT T.2 l i && readyAt T.2 l i && closedT T.2 l && lastW T.2 B l ds i && (l.set i true == l')
theorem take_ofW {B : List Nat} (hT : rtab md ops = T) (hB : waitsOk T.2 B = true) (h : takeW T B ds l.toList l'.toList i = true) : takeB md ops ds l l' i = true := by
  refine take_of hT ?_
  simp only [takeW, takeT, Bool.and_eq_true] at h ⊢
  obtain ⟨⟨⟨⟨⟨h1, h2⟩, h3⟩, h4⟩, h5⟩, h6⟩ := h
  refine ⟨⟨⟨⟨⟨h1, h2⟩, h3⟩, h4⟩, ?_⟩, h6⟩
  unfold lastW at h5
  unfold lastT
  rw [List.all_eq_true] at h5 ⊢
  intro d hd
  have h7 := h5 d hd
  rw [Bool.or_eq_true, Bool.and_eq_true, decide_eq_true_eq] at h7
  rcases h7 with h7 | ⟨h8, h9⟩
  · rw [h7, Bool.true_or]
  · rw [reach_bit hB _ d h8 h8 h9, Bool.or_true]
theorem with_tabW {P : Program} {Q : Exit → Act → World → Prop} {S : World → Prop} {n : Nat} {a : Act} {w : World} {B : List Nat} (hT : rtab md ops = T) (hB : waitsOk T.2 B = true) (h : Aside0 (rtab md ops = T) → Aside0 (waitsOk T.2 B = true) → wpAnyLast P md ops Q S ds n l a w) : wpAnyLast P md ops Q S ds n l a w := h ⟨hT⟩ ⟨hB⟩
end
def opsIn : Code → Nat → Option (Array Oper)
  | .region id ops _, k => if id == k then some ops else none
  | .seq a b, k => match opsIn a k with
    | some o => some o
    | none => opsIn b k
  | .cond _ a b, k => match opsIn a k with
    | some o => some o
    | none => opsIn b k
  | .block _ c, k => opsIn c k
  | .loop c, k => opsIn c k
  | .scope c, k => opsIn c k
  | .rangeFunc _ _ a b, k => match opsIn a k with
    | some o => some o
    | none => opsIn b k
  | _, _ => none
def opsOf (f : Func) (k : Nat) : Array Oper := ((f.body.bind fun c => opsIn c k)).getD #[]
end Go.Proofs.YthkclagcbjnckaaW.PrintLast


namespace Go.Proofs.YthkclagcbjnckaaW.PrintWords
open Go.RowKit
namespace Kd
def tag {α : Type} (f : Nat → Nat) (d : Kd α) : Kd (α × Nat) where
  sz := d.sz
  E := d.E
  K := fun w x cs => d.K w x.1 cs
  M := fun w base ok x cs => d.M w base (fun k => ok k ∧ f k = x.2) x.1 cs
  K_len := fun h => d.K_len h
  K_one := fun h => d.K_one h
  K_below := fun hb h => d.K_below hb h
  K_of_M := fun h => d.K_of_M h
  M_mono := fun hok h => d.M_mono (fun k hk => ⟨hok k hk.1, hk.2⟩) h
  M_bound := fun h => d.M_mono (fun _ hk => ⟨⟨hk.1.1, hk.2⟩, hk.1.2⟩) (d.M_bound h)
  M_move := fun hm h => d.M_move (fun k hk => hm k hk.1) h
  M_lower := fun hb h => d.M_lower hb h
def raw (sz : Nat) : Kd (List Value) where
  sz := sz
  E := []
  K := fun _ x cs => cs = x ∧ cs.length = sz ∧ ∀ u ∈ cs, u.oneCell' = true
  M := fun _ _ _ x cs => cs = x ∧ cs.length = sz ∧ ∀ u ∈ cs, u.oneCell' = true
  K_len := fun h => h.2.1
  K_one := fun h => h.2.2
  K_below := fun _ h => h
  K_of_M := fun h => h
  M_mono := fun _ h => h
  M_bound := fun h => h
  M_move := fun _ h => h
  M_lower := fun _ h => h
def S {α : Type} (d : Kd α) (e : Nat) (w : World) (base : Nat) (ok : Nat → Prop) (v : Value) (xs : List α) : Prop := ∃ f, (tag f d).R e w base ok v xs.zipIdx
section
variable {α β : Type} {d : Kd α} {d' : Kd β} {e e' : Nat} {w w1 W : World} {base b : Nat} {ok ok' okv oku : Nat → Prop} {u v : Value} {xs : List α} {ys : List β}
theorem zip_at {xs : List α} {j : Nat} {p : α} (h : xs[j]? = some p) : xs.zipIdx[j]? = some (p, j) := by rw [List.getElem?_zipIdx, h, Nat.zero_add]; rfl
theorem S_R (h : S d e w base ok v xs) : d.R e w base ok v xs := by
  obtain ⟨f, h0, inner, ho, hr⟩ := h
  rw [List.length_zipIdx] at ho
  exact ⟨h0, inner, ho, by have := hr.1; rw [List.length_zipIdx] at this; exact this, fun j p hj => d.M_mono (fun _ hk => hk.1) (hr.2 j (p, j) (zip_at hj))⟩
theorem R_tight (hE : d.E = []) (h : d.R e w base ok v xs) : d.R e w base (fun k => some k = v.ownBlock) v xs := by
  obtain ⟨h0, inner, ho, hr⟩ := h
  refine ⟨fun k hk => hk.symm, inner, ho, hr.imp_ (fun p c hp => d.M_mono (fun k hk => ?_) (d.M_bound hp))⟩
  obtain ⟨_, _, _, q, hq, _⟩ := hk
  rw [hE] at hq
  cases hq
theorem S_nil (d : Kd α) (e : Nat) (w : World) (base : Nat) (ok : Nat → Prop) : S d e w base ok (.slice none 0 0) [] := ⟨fun _ => 0, R_nil _ _ _ _ _⟩
theorem S_mono (h : S d e w base ok v xs) (hok : ∀ k, ok k → ok' k) : S d e w base ok' v xs := by
  obtain ⟨f, h⟩ := h
  exact ⟨f, R_mono h hok⟩
theorem S_bound (h : S d e w base ok v xs) : S d e w base (fun k => ok k ∧ base ≤ k ∧ k < w.heap.size ∧ ∃ q, q ∈ e :: d.E ∧ ∃ cells, w.heap[k]? = some (.cells cells q (0, 0))) v xs := by
  obtain ⟨f, h⟩ := h
  exact ⟨f, R_bound h⟩
theorem S_move (h : S d e w base ok v xs) (hm : ∀ k, ok k → w1.heap[k]? = w.heap[k]?) : S d e w1 base ok v xs := by
  obtain ⟨f, h⟩ := h
  exact ⟨f, R_move h hm⟩
theorem S_lower {base' : Nat} (h : S d e w base ok v xs) (hb : base' ≤ base) : S d e w base' ok v xs := by
  obtain ⟨f, h⟩ := h
  exact ⟨f, R_lower h hb⟩
theorem S_step (h : S d e w base ok v xs) (hm : ∀ k, ok k → k < w.heap.size → w1.heap[k]? = w.heap[k]?) : S d e w1 base ok v xs :=
  S_mono (S_move (S_bound h) (fun k hk => hm k hk.1 hk.2.2.1)) (fun _ hk => hk.1)
theorem S_below (h : S d e w base ok v xs) (hb : Below w.heap.size w w1) : S d e w1 base ok v xs := S_step h (fun k _ hk => hb.block k hk)
theorem S_drew (h : S d e w base ok v xs) : S d e w.drew base ok v xs := S_below h (below_drew (Below.refl _ _))
theorem S_typed (h : S d e w base ok v xs) : ∀ k, v.ownBlock = some k → ∃ cells, w.heap[k]? = some (.cells cells e (0, 0)) := R_typed (S_R h)
theorem S_base (h : S d e w base ok v xs) : ∀ k, v.ownBlock = some k → base ≤ k := R_base (S_R h)
theorem S_elder' (h : S d e W base ok u xs) (hbase : ∀ k, v.ownBlock = some k → W.heap.size ≤ k) (hb : Below W.heap.size W w1) : S d e w1 base (fun k => ok k ∧ some k ≠ v.ownBlock) u xs := by
  obtain ⟨f, h⟩ := h
  exact ⟨f, R_elder' h hbase hb⟩
theorem S_after {v1 : Value} (h : S d e W base (fun k => ok k ∧ some k ≠ v.ownBlock) u xs) (hg : W.grownBy w1 v.ownBlock) (hat : v1.ownBlock = v.ownBlock ∨ ∃ b, v1.ownBlock = some b ∧ W.heap.size ≤ b) : S d e w1 base (fun k => ok k ∧ some k ≠ v1.ownBlock) u xs := by
  obtain ⟨f, h⟩ := h
  exact ⟨f, R_after h hg hat⟩
theorem R_tag {f f' : Nat → Nat} {zs : List (α × Nat)} (h : (tag f d).R e w base ok v zs) (hf : ∀ k, ok k → k < w.heap.size → f' k = f k) : (tag f' d).R e w base ok v zs := by
  obtain ⟨h0, inner, ho, hr⟩ := R_bound h
  exact ⟨fun k hk => (h0 k hk).1, inner, ho, hr.1, fun j p hj => d.M_mono (fun k hk => ⟨⟨hk.1.1.1, hk.1.2⟩, (hf k hk.1.1.1 hk.1.1.2.2.1).trans hk.2⟩) (hr.2 j p hj)⟩
end
section
variable {α β : Type} {d : Kd α} {d' : Kd β} {e e' g : Nat} {w w1 W : World} {base b : Nat} {ok ok' okv oku : Nat → Prop} {u v : Value} {xs : List α} {ys : List β}
theorem zip_snoc (xs : List α) (p : α) : (xs ++ [p]).zipIdx = xs.zipIdx ++ [(p, xs.length)] := by rw [List.zipIdx_append]; simp
end
section
open Classical in
theorem S_tag {α : Type} {d : Kd α} {e base : Nat} {okv : Nat → Prop} {w : World} {v : Value} {xs : List α} (h : S d e w base okv v xs) (m : Nat) (okp : Nat → Prop) (hap : ∀ k, okp k → ¬ okv k) : ∃ f, (∀ k, okp k → f k = m) ∧ (tag f d).R e w base okv v xs.zipIdx := by
  obtain ⟨f, h⟩ := h
  exact ⟨fun k => if okp k then m else f k, fun k hk => if_pos hk, R_tag h (fun k hk _ => if_neg (fun h2 => hap k h2 hk))⟩
variable {P : Program} {ops : Array Oper} {rest : List Oper} {o : Oper} {a : Act} {Q : Exit → Act → World → Prop} {Kc : Act → World → Prop} {α : Type}
theorem S_append_step (d : Kd α) {w0 W : World} (base : Nat) (hw : Region.wanted o (yielded ops a.tmps) = true) (s x : Operand) (t e : TypeId) (z : Value) (bytes : Nat)
    (ho : o.op = .call { callee := .builtin .append, args := #[s, x], argTypes := #[t, t] })
    (ht : P.underlying t = some (.slice e)) (hinfo : (P.info? e).map (fun i => (i.zero, i.size, i.bytes)) = some (some z, d.sz, bytes)) (hz : z.cells.size = d.sz) (hs0 : 0 < d.sz) (hb0 : 0 < bytes)
    (v : Value) (xs : List α) (p : α) (cs : List Value) (ok okp : Nat → Prop) (hs : a.eval s = v) (hx : a.eval x = .slice (some ⟨W.heap.size, 0, none⟩) 1 1) (hp : d.M W base okp p cs) (hokp : ∀ k, okp k → ok k ∧ some k ≠ v.ownBlock) (hfresh : ∀ k, W.heap.size ≤ k → ok k)
    (HO : S d e W base (fun k => ok k ∧ ¬ okp k) v xs) (HB : Below base w0 W) (hbase : base ≤ W.heap.size) (hl : (xs.length + 1) * bytes ≤ 140737488355328)
    (h : ∀ v1 w1, S d e w1 base ok v1 (xs ++ [p]) → Below base w0 w1 → W.grownBy w1 v.ownBlock → (v1.ownBlock = v.ownBlock ∨ ∃ b, v1.ownBlock = some b ∧ W.heap.size ≤ b) → Kc (a.put o.dst v1) w1) :
    if Region.wanted o (yielded ops a.tmps) = true then Oper.wp P o a (W.alloc (.cells cs.toArray e)) Kc Q else Kc (a.put o.dst undef) (W.alloc (.cells cs.toArray e)) := by
  obtain ⟨f, hf, hR⟩ := S_tag HO xs.length okp (fun _ hk h2 => h2.2 hk)
  refine R_append_step (tag f d) base hw s x t e z bytes ho ht hinfo hz hs0 hb0 v xs.zipIdx (p, xs.length) cs ok okp hs hx (d.M_mono (fun k hk => ⟨hk, hf k hk⟩) hp) hokp hfresh (R_mono hR (fun _ hk => hk.1)) HB hbase (by rw [List.length_zipIdx]; exact hl) ?_
  intro v1 w1 hr
  rw [← zip_snoc] at hr
  exact h v1 w1 ⟨f, hr⟩
end
section
variable {α β : Type} {d : Kd α} {e e' g n cap : Nat} {w w1 W : World} {base : Nat} {ok ok' oki okp : Nat → Prop} {u v : Value} {xs : List α} {i : Int} {c : List Value}
end
section
variable {P : Program} {ops : Array Oper} {rest : List Oper} {o : Oper} {a : Act} {Q : Exit → Act → World → Prop} {α : Type}
end
end Kd
end Go.Proofs.YthkclagcbjnckaaW.PrintWords


namespace Go.Proofs.YthkclagcbjnckaaW.PrintWords
open Go.RowKit
section
variable {P : Program}
end
namespace Kd
section
variable {P : Program} {ops : Array Oper} {rest : List Oper} {o : Oper} {a : Act} {Q : Exit → Act → World → Prop} {Kc : Act → World → Prop} {α : Type}
end
section
variable {α : Type} {d : Kd α} {e : Nat} {w : World} {base : Nat} {ok : Nat → Prop} {v : Value} {xs : List α}
def zipO (xs : List α) (z : α) (m : Nat) : List (α × Option Nat) := xs.zipIdx.map (fun p => (p.1, some p.2)) ++ List.replicate m (z, none)
end
section
variable {P : Program} {ops : Array Oper} {rest : List Oper} {o : Oper} {a : Act} {Q : Exit → Act → World → Prop} {Kc : Act → World → Prop} {α : Type}
end
end Kd
end Go.Proofs.YthkclagcbjnckaaW.PrintWords


namespace Go.Proofs.YthkclagcbjnckaaW.PrintWords
open Go.RowKit
namespace Kd
structure Heap {α : Type} (d : Kd α) : Prop where
  K : ∀ {w w1 : World} {x : α} {cs : List Value}, (∀ k, k < w.heap.size → w1.heap[k]? = w.heap[k]?) → d.K w x cs → d.K w1 x cs
theorem cell_heap {w w1 : World} (hb : ∀ k, k < w.heap.size → w1.heap[k]? = w.heap[k]?) {a : Addr} {v : Value} (h : w.cell? a = some v) : w1.cell? a = some v := by
  have := hb a.block (World.block_lt_of_cell? w a h)
  simpa [World.cell?, this] using h
theorem Heap.C {α : Type} {d : Kd α} (hd : Heap d) {w w1 : World} {A : Option Addr} {n : Nat} {xs : List α} (hb : ∀ k, k < w.heap.size → w1.heap[k]? = w.heap[k]?) (h : d.C w A n xs) : d.C w1 A n xs :=
  ⟨h.1, h.2.1, fun hn => by
    obtain ⟨ad, e, hc⟩ := h.2.2 hn
    refine ⟨ad, e, fun j p hj => ?_⟩
    obtain ⟨c, hs, hr, hcell⟩ := hc j p hj
    exact ⟨c, hs, hd.K hb hr, fun i u hu => cell_heap hb (hcell i u hu)⟩⟩
theorem heap_int (k : IntKind) : Heap (Kd.int k) := ⟨fun _ h => h⟩
theorem heap_slice {α : Type} {d : Kd α} (e : Nat) (hd : Heap d) : Heap (slice e d) := ⟨by
  rintro w w1 x cs hb ⟨A, c, rfl, hl, hr⟩
  exact ⟨A, c, rfl, hl, hd.C hb hr⟩⟩
theorem heap_pair {α β : Type} {a : Kd α} {b : Kd β} (ha : Heap a) (hb' : Heap b) : Heap (pair a b) := ⟨by
  rintro w w1 x cs hb ⟨c0, c1, rfl, h0, h1⟩
  exact ⟨c0, c1, rfl, ha.K hb h0, hb'.K hb h1⟩⟩
theorem heap_iso {α β : Type} {d : Kd α} (f : β → α) (hd : Heap d) : Heap (iso d f) := ⟨fun hb h => hd.K hb h⟩
section
variable {α : Type} {d : Kd α} {e base g n c : Nat} {ok : Nat → Prop} {w w0 W : World} {A : Option Addr} {xs : List α}
end
end Kd
end Go.Proofs.YthkclagcbjnckaaW.PrintWords


namespace Go.Proofs.YthkclagcbjnckaaW.PrintWords
open Go.RowKit
def Foot (P : World → Prop) (W : World) (ok : Nat → Prop) : Prop := ∀ W' : World, (∀ k, ok k → k < W.heap.size → W'.heap[k]? = W.heap[k]?) → P W'
theorem heap_lt {W W1 : World} {k : Nat} (h : W1.heap[k]? = W.heap[k]?) (hlt : k < W.heap.size) : k < W1.heap.size := by
  rw [Array.getElem?_eq_getElem hlt] at h
  exact (Array.getElem?_eq_some_iff.1 h).1
namespace Foot
variable {P Q : World → Prop} {W W1 : World} {ok ok' : Nat → Prop}
theorem now (h : Foot P W ok) : P W := h W (fun _ _ _ => rfl)
theorem mono (h : Foot P W ok) (hok : ∀ k, ok k → ok' k) : Foot P W ok' := fun W' hW => h W' (fun k hk hlt => hW k (hok k hk) hlt)
theorem bound (h : Foot P W ok) : Foot P W (fun k => ok k ∧ k < W.heap.size) := fun W' hW => h W' (fun k hk hlt => hW k ⟨hk, hlt⟩ hlt)
theorem step (h : Foot P W ok) (hm : ∀ k, ok k → k < W.heap.size → W1.heap[k]? = W.heap[k]?) : Foot P W1 ok := fun W' hW => h W' (fun k hk hlt => (hW k hk (heap_lt (hm k hk hlt) hlt)).trans (hm k hk hlt))
theorem imp (h : Foot P W ok) (hi : ∀ W', P W' → Q W') : Foot Q W ok := fun W' hW => hi W' (h W' hW)
theorem old (h : Foot P W ok) (hb : Below W.heap.size W W1) : Foot P W1 (fun k => ok k ∧ k < W.heap.size) := (h.bound).step (fun k _ hlt => hb.block k hlt)
end Foot
namespace Kd
def F {α : Type} (d : Kd α) (W : World) (ok : Nat → Prop) (A : Option Addr) (n : Nat) (xs : List α) : Prop := Foot (fun W => d.C W A n xs) W ok
def FK {α : Type} (d : Kd α) (W : World) (ok : Nat → Prop) (x : α) (c : List Value) : Prop := Foot (fun W => d.K W x c) W ok
section
variable {α β : Type} {d : Kd α} {e base n n' cc g N : Nat} {ok ok' okp S : Nat → Prop} {w w0 w1 W W1 : World} {A A' : Option Addr} {u v v1 : Value} {xs : List α} {xs' : List β} {d' : Kd β} {x : α} {c : List Value}
theorem F_now (h : F d W ok A n xs) : d.C W A n xs := Foot.now h
theorem F_mono (h : F d W ok A n xs) (hok : ∀ k, ok k → ok' k) : F d W ok' A n xs := Foot.mono h hok
theorem F_bound (h : F d W ok A n xs) : F d W (fun k => ok k ∧ k < W.heap.size) A n xs := Foot.bound h
theorem F_step (h : F d W ok A n xs) (hm : ∀ k, ok k → k < W.heap.size → W1.heap[k]? = W.heap[k]?) : F d W1 ok A n xs := Foot.step h hm
theorem F_imp (h : F d W ok A n xs) (hi : ∀ W', d.C W' A n xs → d'.C W' A' n' xs') : F d' W ok A' n' xs' := Foot.imp h hi
theorem F_below (h : F d W ok A n xs) (hb : Below W.heap.size W W1) : F d W1 ok A n xs := F_step h (fun k _ hlt => hb.block k hlt)
theorem F_drew (h : F d W ok A n xs) : F d W.drew ok A n xs := F_below h (below_drew (Below.refl _ _))
theorem F_drewN (h : F d W ok A n xs) (m : Nat) : F d (W.drewN m) ok A n xs := F_below h (pw_below_drewN (Below.refl _ _) m)
theorem F_far (h : F d W ok A n xs) {p : Addr} (hok : ∀ k, ok k → k ≠ p.block) (u : Value) : F d (W.setCell p u) ok A n xs := F_step h (fun k hk _ => Below.heap_setCell W p u k (hok k hk))
theorem F_nil (d : Kd α) (W : World) (ok : Nat → Prop) : F d W ok none ([] : List α).length [] := fun W' _ => C_nil d W'
theorem F_elder' (h : F d W ok A n xs) (hbase : ∀ k, v.ownBlock = some k → W.heap.size ≤ k) (hb : Below W.heap.size W W1) : F d W1 (fun k => ok k ∧ some k ≠ v.ownBlock) A n xs :=
  F_mono (Foot.old h hb) (fun k hk => ⟨hk.1, fun he => by have := hbase k he.symm; have := hk.2; omega⟩)
theorem F_elderB (h : F d W ok A n xs) (a : Nat) (ha : W.heap.size ≤ a) : F d W (fun k => ok k ∧ k ≠ a) A n xs := F_mono (F_bound h) (fun k hk => ⟨hk.1, by have := hk.2; omega⟩)
theorem F_after (h : F d W (fun k => ok k ∧ some k ≠ v.ownBlock) A n xs) (hg : W.grownBy W1 v.ownBlock) (hat : v1.ownBlock = v.ownBlock ∨ ∃ b, v1.ownBlock = some b ∧ W.heap.size ≤ b) : F d W1 (fun k => ok k ∧ some k ≠ v1.ownBlock) A n xs := by
  refine F_mono (Foot.step (F_bound h) (fun k hk hlt => hg.block k hlt hk.1.2)) (fun k hk => ⟨hk.1.1, ?_⟩)
  rcases hat with hat | ⟨b, hb, hle⟩
  · rw [hat]; exact hk.1.2
  · rw [hb]
    intro he
    injection he with he
    have := hk.2
    omega
theorem F_old (h : F d W ok A n xs) (hb : Below W.heap.size W W1) : F d W1 (fun k => ok k ∧ k < W.heap.size) A n xs := Foot.old h hb
theorem F_apart_nil (h : F d W ok A n xs) : F d W (fun k => ok k ∧ some k ≠ (Value.slice none 0 0).ownBlock) A n xs := F_mono h (fun k hk => ⟨hk, by simp [Value.ownBlock]⟩)
theorem C_F (hd : Heap d) (h : d.C w A n xs) : F d w (fun k => k < w.heap.size) A n xs := fun _ hW => hd.C (fun k hlt => hW k hlt hlt) h
theorem R_F (h : d.R e W base ok (.slice A n cc) xs) : F d W ok A n xs := fun W' hW => by
  have h2 := R_reads' (R_step h hW)
  rw [h2.1]
  exact h2.2.2
theorem FK_now (h : FK d W ok x c) : d.K W x c := Foot.now h
theorem FK_mono (h : FK d W ok x c) (hok : ∀ k, ok k → ok' k) : FK d W ok' x c := Foot.mono h hok
theorem FK_bound (h : FK d W ok x c) : FK d W (fun k => ok k ∧ k < W.heap.size) x c := Foot.bound h
theorem FK_step (h : FK d W ok x c) (hm : ∀ k, ok k → k < W.heap.size → W1.heap[k]? = W.heap[k]?) : FK d W1 ok x c := Foot.step h hm
theorem FK_of_M (h : d.M W base ok x c) : FK d W ok x c := fun _ hW => d.K_of_M (M_step h hW)
theorem emptied (W : World) (g : Nat) : ∃ W' : World, (∀ k, k ≠ g → W'.heap[k]? = W.heap[k]?) ∧ ∀ a : Addr, a.block = g → W'.cell? a = none := by
  refine ⟨{ W with heap := W.heap.setIfInBounds g (.cells #[] 0) }, fun k hk => by simp [Ne.symm hk], fun a ha => ?_⟩
  subst ha
  by_cases hlt : a.block < W.heap.size
  · simp [World.cell?, hlt]
  · simp [World.cell?, hlt]
end
end Kd
end Go.Proofs.YthkclagcbjnckaaW.PrintWords


namespace Go.Proofs.YthkclagcbjnckaaW.PrintWords
open Go.RowKit
namespace Kd
def chunks (sz : Nat) (n : Nat) (inner : List Value) : List (List Value) := (List.range n).map fun j => (inner.drop (j * sz)).take sz
theorem chunks_length (sz n : Nat) (inner : List Value) : (chunks sz n inner).length = n := by simp [chunks]
theorem chunks_at {sz n : Nat} {inner : List Value} {j : Nat} (hj : j < n) : (chunks sz n inner)[j]? = some ((inner.drop (j * sz)).take sz) := by simp [chunks, hj]
theorem chunks_get {sz n : Nat} {inner : List Value} {j : Nat} {c : List Value} (h : (chunks sz n inner)[j]? = some c) : c = (inner.drop (j * sz)).take sz := by
  have hj : j < n := by have := (List.getElem?_eq_some_iff.1 h).1; rwa [chunks_length] at this
  rw [chunks_at hj] at h
  injection h with h
  exact h.symm
theorem reps_raw {α : Type} {Rr : α → List Value → Prop} {sz : Nat} {xs : List α} {inner : List Value} (h : Reps Rr sz xs inner) (hR : ∀ x c, Rr x c → c.length = sz ∧ ∀ u ∈ c, u.oneCell' = true) : Reps (fun x cs => cs = x ∧ cs.length = sz ∧ ∀ u ∈ cs, u.oneCell' = true) sz (chunks sz xs.length inner) inner := by
  refine ⟨by rw [chunks_length]; exact h.1, fun j p hj => ?_⟩
  have hjl : j < xs.length := by have := (List.getElem?_eq_some_iff.1 hj).1; rwa [chunks_length] at this
  have hp := chunks_get hj
  exact ⟨hp.symm, hR _ _ (h.2 j _ (List.getElem?_eq_getElem hjl))⟩
section
variable {α : Type} {d : Kd α} {e base n cc g : Nat} {ok ok' okp S : Nat → Prop} {w w1 W W1 : World} {A : Option Addr} {u v v1 : Value} {xs : List α} {x : α} {c : List Value}
theorem F_get (h : F d W ok A n xs) (z : α) (i : Int) (h0 : 0 ≤ i) (h1 : i < n) :
    ∃ ad c, A = some ad ∧ c.length = d.sz ∧ FK d W ok (xs.getD i.toNat z) c ∧ (∀ j u, c[j]? = some u → W.cell? (ad.add (i.toNat * d.sz + j)) = some u) ∧ (0 < d.sz → ok ad.block) := by
  obtain ⟨ad, c, rfl, hcl, hK, hcc⟩ := C_get (F_now h) z i h0 h1
  have hin : 0 < d.sz → ok ad.block := by
    intro hs
    by_cases hk : ok ad.block
    · exact hk
    · obtain ⟨W', h2, h3⟩ := emptied W ad.block
      obtain ⟨ad', c', he, hcl', _, hcc'⟩ := C_get (h W' (fun k hk' _ => h2 k (fun e => hk (e ▸ hk')))) z i h0 h1
      injection he with he
      subst he
      have h4 := hcc' 0 _ (List.getElem?_eq_getElem (by omega))
      rw [h3 _ (add_block _ _)] at h4
      cases h4
  refine ⟨ad, c, rfl, hcl, fun W' hW => ?_, hcc, hin⟩
  obtain ⟨ad', c', he, hcl', hK', hcc'⟩ := C_get (h W' hW) z i h0 h1
  injection he with he
  subst he
  have hc : c = c' := by
    apply List.ext_getElem?
    intro j
    by_cases hj : j < d.sz
    · have hb : W'.heap[ad.block]? = W.heap[ad.block]? := by
        have h5 := hcc j _ (List.getElem?_eq_getElem (by omega))
        have h6 := World.block_lt_of_cell? W _ h5
        rw [add_block] at h6
        exact hW _ (hin (by omega)) h6
      have h5 := hcc j _ (List.getElem?_eq_getElem (by omega))
      have h6 := hcc' j _ (List.getElem?_eq_getElem (by omega))
      have h7 : W'.cell? (ad.add (i.toNat * d.sz + j)) = W.cell? (ad.add (i.toNat * d.sz + j)) := by simp [World.cell?, add_block, hb]
      rw [h7, h5] at h6
      rw [List.getElem?_eq_getElem (by omega), List.getElem?_eq_getElem (by omega)]
      exact h6
    · rw [List.getElem?_eq_none (by omega), List.getElem?_eq_none (by omega)]
  rw [hc]
  exact hK'
theorem F_rows (h : F d W ok A n xs) : ReadsRow (fun x c => FK d W ok x c) d.sz W A n xs := by
  obtain ⟨hl, hm, hn⟩ := F_now h
  refine ⟨hl, hm, fun hp => ?_⟩
  obtain ⟨ad, rfl, _⟩ := hn hp
  refine ⟨ad, rfl, fun j p hj => ?_⟩
  obtain ⟨hjl, hjp⟩ := List.getElem?_eq_some_iff.1 hj
  obtain ⟨ad', c, he, hcl, hK, hcc, _⟩ := F_get h p (j : Int) (by omega) (by omega)
  injection he with he
  subst he
  simp only [Int.toNat_natCast] at hK hcc
  rw [List.getD_eq_getElem?_getD, hj] at hK
  exact ⟨c, hcl, hK, hcc⟩
def N {α : Type} (d : Kd α) (e : Nat) (w : World) (base : Nat) (ok : Nat → Prop) (v : Value) (xs : List α) : Prop :=
  (∀ k, v.ownBlock = some k → ok k) ∧ ∃ rows : List (List Value), rows.length = xs.length ∧ (raw d.sz).R e w base (fun k => some k = v.ownBlock) v rows ∧ ∀ (j : Nat) (x : α) (c : List Value), xs[j]? = some x → rows[j]? = some c → FK d w (fun k => ok k ∧ some k ≠ v.ownBlock) x c
theorem raw_tight {sz : Nat} {rows : List (List Value)} (h : (raw sz).R e w base ok v rows) : (raw sz).R e w base (fun k => some k = v.ownBlock) v rows := R_tight rfl h
theorem raw_any {sz : Nat} {rows : List (List Value)} (h : (raw sz).R e w base ok v rows) : (raw sz).R e w base (fun _ => True) v rows := R_mono h (fun _ _ => trivial)
theorem R_N (h : d.R e w base ok v xs) : N d e w base ok v xs := by
  obtain ⟨h0, inner, ho, hr⟩ := h
  refine ⟨h0, chunks d.sz xs.length inner, chunks_length _ _ _, ⟨fun k hk => hk.symm, inner, by rw [chunks_length]; exact ho, reps_raw hr (fun x c hp => ⟨d.K_len (d.K_of_M hp), d.K_one (d.K_of_M hp)⟩)⟩, fun j x c hx hc => ?_⟩
  rw [chunks_get hc]
  exact FK_of_M (hr.2 j x hx)
theorem S_N (h : Kd.S d e w base ok v xs) : N d e w base ok v xs := R_N (S_R h)
theorem N_nil (d : Kd α) (e : Nat) (w : World) (base : Nat) (ok : Nat → Prop) : N d e w base ok (.slice none 0 0) [] := R_N (R_nil _ _ _ _ _)
theorem N_mono (h : N d e w base ok v xs) (hok : ∀ k, ok k → ok' k) : N d e w base ok' v xs := by
  obtain ⟨h0, rows, hl, hR, hf⟩ := h
  exact ⟨fun k hk => hok k (h0 k hk), rows, hl, hR, fun j x c hx hc => FK_mono (hf j x c hx hc) (fun k hk => ⟨hok k hk.1, hk.2⟩)⟩
theorem N_lt (h : N d e w base ok v xs) : ∀ k, v.ownBlock = some k → k < w.heap.size := by
  obtain ⟨_, rows, _, hR, _⟩ := h
  exact R_lt hR
theorem N_base (h : N d e w base ok v xs) : ∀ k, v.ownBlock = some k → base ≤ k := by
  obtain ⟨_, rows, _, hR, _⟩ := h
  exact R_base hR
theorem N_typed (h : N d e w base ok v xs) : ∀ k, v.ownBlock = some k → ∃ cells, w.heap[k]? = some (.cells cells e (0, 0)) := by
  obtain ⟨_, rows, _, hR, _⟩ := h
  exact R_typed hR
theorem N_away (h : N d e w base ok v xs) (hok : ∀ k, ok k → k ≠ g) : some g ≠ v.ownBlock := fun he => hok g (h.1 g he.symm) rfl
theorem N_bound (h : N d e w base ok v xs) : N d e w base (fun k => ok k ∧ k < w.heap.size) v xs := by
  have hlt := N_lt h
  obtain ⟨h0, rows, hl, hR, hf⟩ := h
  exact ⟨fun k hk => ⟨h0 k hk, hlt k hk⟩, rows, hl, hR, fun j x c hx hc => FK_mono (FK_bound (hf j x c hx hc)) (fun k hk => ⟨⟨hk.1.1, hk.2⟩, hk.1.2⟩)⟩
theorem N_lower {base' : Nat} (h : N d e w base ok v xs) (hb : base' ≤ base) : N d e w base' ok v xs := by
  obtain ⟨h0, rows, hl, hR, hf⟩ := h
  exact ⟨h0, rows, hl, R_lower hR hb, hf⟩
theorem N_step (h : N d e w base ok v xs) (hm : ∀ k, ok k → k < w.heap.size → w1.heap[k]? = w.heap[k]?) : N d e w1 base ok v xs := by
  obtain ⟨h0, rows, hl, hR, hf⟩ := h
  exact ⟨h0, rows, hl, R_step hR (fun k hk hlt => hm k (h0 k hk.symm) hlt), fun j x c hx hc => FK_step (hf j x c hx hc) (fun k hk hlt => hm k hk.1 hlt)⟩
theorem N_below (h : N d e w base ok v xs) (hb : Below w.heap.size w w1) : N d e w1 base ok v xs := N_step h (fun k _ hk => hb.block k hk)
theorem N_drew (h : N d e w base ok v xs) : N d e w.drew base ok v xs := N_below h (below_drew (Below.refl _ _))
theorem N_drewN (h : N d e w base ok v xs) (m : Nat) : N d e (w.drewN m) base ok v xs := N_below h (pw_below_drewN (Below.refl _ _) m)
theorem N_grown (h : N d e w base ok v xs) {row : Option Nat} (hg : w.grownBy w1 row) (hok : ∀ k, ok k → some k ≠ row) : N d e w1 base ok v xs := N_step h (fun k ho hk => hg.block k hk (hok k ho))
theorem N_far (h : N d e w base ok v xs) {p : Addr} (hok : ∀ k, ok k → k ≠ p.block) (u : Value) : N d e (w.setCell p u) base ok v xs := N_step h (fun k ho _ => Below.heap_setCell w p u k (hok k ho))
theorem N_elder' (h : N d e W base ok v xs) (hbase : ∀ k, u.ownBlock = some k → W.heap.size ≤ k) (hb : Below W.heap.size W w1) : N d e w1 base (fun k => ok k ∧ some k ≠ u.ownBlock) v xs :=
  N_mono (N_below (N_bound h) hb) (fun k hk => ⟨hk.1, fun he => by have := hbase k he.symm; have := hk.2; omega⟩)
theorem N_elderB (h : N d e w base ok v xs) (a : Nat) (ha : w.heap.size ≤ a) : N d e w base (fun k => ok k ∧ k ≠ a) v xs := N_mono (N_bound h) (fun k hk => ⟨hk.1, by have := hk.2; omega⟩)
theorem N_slice (h : N d e w base ok v xs) : ∃ A c, v = .slice A xs.length c := by
  obtain ⟨_, rows, hl, hR, _⟩ := h
  obtain ⟨A, c, he⟩ := R_slice hR
  exact ⟨A, c, by rw [he, hl]⟩
theorem N_form (h : N d e w base ok v xs) (hp : 0 < xs.length) : ∃ g cap, v = .slice (some ⟨g, 0, none⟩) xs.length cap ∧ base ≤ g ∧ g < w.heap.size ∧ ∃ cells, w.heap[g]? = some (.cells cells e (0, 0)) := by
  obtain ⟨_, rows, hl, hR, _⟩ := h
  rw [← hl] at hp ⊢
  exact R_form hR hp
theorem N_reads' {n c : Nat} (h : N d e w base ok (.slice A n c) xs) : n = xs.length ∧ n ≤ c ∧ d.C w A xs.length xs := by
  obtain ⟨_, rows, hl, hR, hf⟩ := h
  obtain ⟨hn, hc, hC⟩ := R_reads' hR
  refine ⟨by omega, hc, ?_⟩
  rw [hl] at hC
  refine ⟨rfl, hC.2.1, fun hp => ?_⟩
  obtain ⟨ad, he, hcell⟩ := hC.2.2 hp
  refine ⟨ad, he, fun j p hj => ?_⟩
  have hjl : j < rows.length := by have := (List.getElem?_eq_some_iff.1 hj).1; omega
  obtain ⟨c', hcl, hK, hcc⟩ := hcell j _ (List.getElem?_eq_getElem hjl)
  have hk := FK_now (hf j p _ hj (List.getElem?_eq_getElem hjl))
  refine ⟨c', hcl, ?_, hcc⟩
  rw [show c' = rows[j] from hK.1]
  exact hk
theorem N_reads (h : N d e w base ok v xs) : ∃ A c, v = .slice A xs.length c ∧ xs.length ≤ c ∧ d.C w A xs.length xs := by
  obtain ⟨A, c, rfl⟩ := N_slice h
  exact ⟨A, c, rfl, (N_reads' h).2⟩
theorem N_F {n : Nat} (h : N d e w base ok (.slice A n cc) xs) : F d w ok A n xs := fun W' hW => by
  have h2 := N_reads' (N_step h hW)
  rw [h2.1]
  exact h2.2.2
theorem N_elem {n cap : Nat} (h : N d e W base ok (.slice (some ⟨g, 0, none⟩) n cap) xs) (z : α) (i : Int) (h0 : 0 ≤ i) (h1 : i < n) :
    ∃ c, c.length = d.sz ∧ FK d W (fun k => ok k ∧ k ≠ g) (xs.getD i.toNat z) c ∧ (∀ j u, c[j]? = some u → W.cell? ⟨g, i.toNat * d.sz + j, none⟩ = some u) ∧ ∀ j, W.frozen? ⟨g, i.toNat * d.sz + j, none⟩ = false := by
  obtain ⟨_, rows, hl, hR, hf⟩ := h
  have hn := (R_reads' hR).1
  obtain ⟨c, hcl, hM, hcc, hfr⟩ := R_elem hR [] i h0 h1
  have hil : i.toNat < rows.length := by omega
  have hil' : i.toNat < xs.length := by omega
  have hc : c = rows[i.toNat] := by
    have h2 := hM.1
    rwa [List.getD_eq_getElem?_getD, List.getElem?_eq_getElem hil] at h2
  refine ⟨c, hcl, ?_, hcc, hfr⟩
  rw [List.getD_eq_getElem?_getD, List.getElem?_eq_getElem hil']
  exact FK_mono (hf _ _ _ (List.getElem?_eq_getElem hil') (by rw [hc]; exact List.getElem?_eq_getElem hil)) (fun k hk => ⟨hk.1, fun he => hk.2 (by rw [he]; simp [Value.ownBlock])⟩)
end
end Kd
end Go.Proofs.YthkclagcbjnckaaW.PrintWords


namespace Go.Proofs.YthkclagcbjnckaaW.PrintWords
theorem Reps.front {α : Type} {R : α → List Value → Prop} {size : Nat} {ps : List α} {cs c all : List Value} {p : α} (hp : R p c) (hc : c.length = size) (h : Reps R size ps cs) (ha : c ++ cs = all) : Reps R size (p :: ps) all := by
  subst ha
  refine ⟨by rw [List.length_append, hc, h.1, List.length_cons, Nat.succ_mul, Nat.add_comm], fun j q hq => ?_⟩
  cases j with
  | zero =>
    simp only [List.getElem?_cons_zero, Option.some.injEq] at hq
    subst hq
    rw [Nat.zero_mul, List.drop_zero, List.take_append_of_le_length (by omega), List.take_of_length_le (by omega)]
    exact hp
  | succ j =>
    simp only [List.getElem?_cons_succ] at hq
    have h1 := h.2 j q hq
    rw [Nat.succ_mul, List.drop_append, List.drop_of_length_le (by rw [hc]; exact Nat.le_add_left _ _), List.nil_append, hc, Nat.add_sub_cancel]
    exact h1
theorem Reps.c3 {α : Type} {R : α → List Value → Prop} {ps : List α} {cs : List Value} {p : α} {va vb vc : Value} (hp : R p [va, vb, vc]) (h : Reps R 3 ps cs) : Reps R 3 (p :: ps) (va :: vb :: vc :: cs) := Reps.front hp rfl h rfl
end Go.Proofs.YthkclagcbjnckaaW.PrintWords


namespace Go.Proofs.YthkclagcbjnckaaW.PrintLast
def up (b : Nat → Bool) (i : Nat) : Nat → Bool := fun j => if j = i then true else b j
theorem up_self (b : Nat → Bool) (i : Nat) : up b i i = true := by simp [up]
def lof (n : Nat) (O : List Nat) (b : Nat → Bool) : List Bool := (List.range n).map fun j => if O.contains j then b j else true
section
variable {P : Program} {ops : Array Oper} {Q : Exit → Act → World → Prop} {md : Region.Mode} {T : Bool × List (List Nat × List Nat)} {B : List Nat} {O : List Nat} {b : Nat → Bool} {i j n : Nat}
def baseOk (T : List (List Nat × List Nat)) (O : List Nat) : Bool :=
  (List.range T.length).all (fun d => match T[d]? with
    | some r => (O.contains d || r.1.all fun n => !O.contains n) && r.1.all fun n => decide (n < d)
    | none => false) && O.all (fun i => decide (i < T.length)) && decide O.Nodup
end
end Go.Proofs.YthkclagcbjnckaaW.PrintLast


namespace Go.Proofs.YthkclagcbjnckaaW.PrintWords
open Go.RowKit
namespace Kd
section
variable {α : Type} {d : Kd α} {e base n cap g : Nat} {ok ok' okp : Nat → Prop} {w w1 W : World} {v v1 : Value} {xs ys : List α}
theorem N_appended {rows news : List (List Value)} (h0 : ∀ k, v.ownBlock = some k → ok k) (hl : rows.length = xs.length) (hf : ∀ (j : Nat) (x : α) (c : List Value), xs[j]? = some x → rows[j]? = some c → FK d W (fun k => ok k ∧ some k ≠ v.ownBlock) x c)
    (hl2 : news.length = ys.length) (hf2 : ∀ (j : Nat) (x : α) (c : List Value), ys[j]? = some x → news[j]? = some c → FK d W okp x c) (hokp : ∀ k, okp k → ok k ∧ some k ≠ v.ownBlock) (hfresh : ∀ k, W.heap.size ≤ k → ok k)
    (hR : (raw d.sz).R e w1 base (fun _ => True) v1 (rows ++ news)) (hg : W.grownBy w1 v.ownBlock) (hat : v1.ownBlock = v.ownBlock ∨ ∃ b, v1.ownBlock = some b ∧ W.heap.size ≤ b) : N d e w1 base ok v1 (xs ++ ys) := by
  have hne : ∀ k, some k ≠ v.ownBlock → k < W.heap.size → some k ≠ v1.ownBlock := by
    intro k hk hlt
    rcases hat with hat | ⟨b, hb, hle⟩
    · rw [hat]; exact hk
    · rw [hb]
      intro he
      injection he with he
      omega
  have step : ∀ {x : α} {c : List Value} {o : Nat → Prop}, FK d W o x c → (∀ k, o k → ok k ∧ some k ≠ v.ownBlock) → FK d w1 (fun k => ok k ∧ some k ≠ v1.ownBlock) x c := by
    intro x c o hq ho
    exact FK_mono (FK_step (FK_bound hq) (fun k hk hlt => hg.block k hlt (ho k hk.1).2)) (fun k hk => ⟨(ho k hk.1).1, hne k (ho k hk.1).2 hk.2⟩)
  refine ⟨fun k hk => ?_, rows ++ news, by rw [List.length_append, List.length_append, hl, hl2], raw_tight hR, fun j x c hx hc => ?_⟩
  · rcases hat with hat | ⟨b, hb, hle⟩
    · exact h0 k (hat ▸ hk)
    · rw [hb] at hk
      injection hk with hk
      exact hfresh k (by omega)
  · rcases Nat.lt_or_ge j xs.length with hlt | hge
    · rw [List.getElem?_append_left hlt] at hx
      rw [List.getElem?_append_left (by omega)] at hc
      exact step (hf j x c hx hc) (fun _ hk => hk)
    · rw [List.getElem?_append_right hge] at hx
      rw [List.getElem?_append_right (by omega), hl] at hc
      exact step (hf2 _ x c hx hc) hokp
theorem FK_raw {x : α} {c : List Value} (h : FK d W ok x c) : c = c ∧ c.length = d.sz ∧ ∀ u ∈ c, u.oneCell' = true := ⟨rfl, d.K_len (FK_now h), d.K_one (FK_now h)⟩
theorem N_made {rows : List (List Value)} (hR : (raw d.sz).R e w1 base (fun k => k = W.heap.size) v1 rows) (hg : W.grownBy w1 none) (hat : ∃ b, v1.ownBlock = some b ∧ W.heap.size ≤ b) (hl : rows.length = xs.length) (hf : ∀ (j : Nat) (x : α) (c : List Value), xs[j]? = some x → rows[j]? = some c → FK d W okp x c)
    (hok : ∀ k, okp k → ok k) (hfresh : ok W.heap.size) : N d e w1 base ok v1 xs := by
  obtain ⟨b, hb, hle⟩ := hat
  refine ⟨fun k hk => by rw [hR.1 k hk]; exact hfresh, rows, hl, raw_tight hR, fun j x c hx hc => ?_⟩
  refine FK_mono (FK_step (FK_bound (hf j x c hx hc)) (fun k hk hlt => hg.block k hlt (by simp))) (fun k hk => ⟨hok k hk.1, fun he => ?_⟩)
  rw [hb] at he
  injection he with he
  have := hk.2
  omega
theorem reads_raw {Rr : α → List Value → Prop} {sz m : Nat} {A : Option Addr} (h : ReadsRow Rr sz W A m ys) (hR : ∀ x c, Rr x c → c.length = sz ∧ ∀ u ∈ c, u.oneCell' = true) :
    ∃ news : List (List Value), news.length = ys.length ∧ ReadsRow (fun x cs => cs = x ∧ cs.length = sz ∧ ∀ u ∈ cs, u.oneCell' = true) sz W A m news ∧ ∀ (j : Nat) (x : α) (c : List Value), ys[j]? = some x → news[j]? = some c → Rr x c := by
  rcases Nat.eq_zero_or_pos m with h0 | hp
  · have hy : ys = [] := List.eq_nil_of_length_eq_zero (h.1.trans h0)
    subst hy
    exact ⟨[], rfl, ⟨h0 ▸ rfl, h.2.1, fun hp => by omega⟩, fun j x c hx => by simp at hx⟩
  · obtain ⟨ad, rfl, _⟩ := h.2.2 hp
    obtain ⟨inner, hr, hc⟩ := ReadsRow.inner_ h
    refine ⟨chunks sz ys.length inner, chunks_length _ _ _, ⟨by rw [chunks_length]; exact h.1, h.2.1, fun _ => ⟨ad, rfl, fun j p hj => ?_⟩⟩, fun j x c hx hcc => ?_⟩
    · have hjl : j < ys.length := by have := (List.getElem?_eq_some_iff.1 hj).1; rwa [chunks_length] at this
      have hpe := chunks_get hj
      have hq := hR _ _ (hr.2 j _ (List.getElem?_eq_getElem hjl))
      rw [← hpe] at hq
      refine ⟨p, hq.1, ⟨rfl, hq⟩, fun i u hu => ?_⟩
      have hu2 : inner[j * sz + i]? = some u := by
        rw [hpe, List.getElem?_take] at hu
        split at hu
        · rw [List.getElem?_drop] at hu
          exact hu
        · cases hu
      exact hc _ u hu2
    · rw [chunks_get hcc]
      exact hr.2 j x hx
end
section
variable {P : Program} {ops : Array Oper} {rest : List Oper} {o : Oper} {a : Act} {Q : Exit → Act → World → Prop} {Kc : Act → World → Prop} {α : Type}
theorem N_append (d : Kd α) {w0 W : World} (base : Nat) (hgd : o.guard = none) (s x : Operand) (t e : TypeId) (z : Value) (bytes : Nat)
    (ho : o.op = .call { callee := .builtin .append, args := #[s, x], argTypes := #[t, t] })
    (ht : P.underlying t = some (.slice e)) (hinfo : (P.info? e).map (fun i => (i.zero, i.size, i.bytes)) = some (some z, d.sz, bytes)) (hz : z.cells.size = d.sz) (hs0 : 0 < d.sz) (hb0 : 0 < bytes)
    (v : Value) (xs : List α) (p : α) (cs : List Value) (ok okp : Nat → Prop) (hs : a.eval s = v) (hx : a.eval x = .slice (some ⟨W.heap.size, 0, none⟩) 1 1) (hp : FK d W okp p cs) (hokp : ∀ k, okp k → ok k ∧ some k ≠ v.ownBlock) (hfresh : ∀ k, W.heap.size ≤ k → ok k)
    (HO : N d e W base ok v xs) (HB : Below base w0 W) (hbase : base ≤ W.heap.size) (hl : (xs.length + 1) * bytes ≤ 140737488355328)
    (h : ∀ v1 w1, N d e w1 base ok v1 (xs ++ [p]) → Below base w0 w1 → W.grownBy w1 v.ownBlock → (v1.ownBlock = v.ownBlock ∨ ∃ b, v1.ownBlock = some b ∧ W.heap.size ≤ b) → wpList P ops Q rest (a.put o.dst v1) w1) :
    wpList P ops Q (o :: rest) a (W.alloc (.cells cs.toArray e)) := by
  obtain ⟨h0, rows, hlr, hR, hf⟩ := HO
  refine R_append (raw d.sz) base hgd s x t e z bytes ho ht hinfo hz hs0 hb0 v rows cs cs (fun _ => True) (fun _ => False) hs hx (FK_raw hp) (fun _ hk => hk.elim) (fun _ _ => trivial) (raw_any hR) HB hbase (by rw [hlr]; exact hl) ?_
  intro v1 w1 hr hb hg hat
  exact h v1 w1 (N_appended h0 hlr hf (ys := [p]) (news := [cs]) rfl (fun j y c hy hc => by
    rcases j with _ | j
    · simp only [List.getElem?_cons_zero, Option.some.injEq] at hy hc
      rw [← hy, ← hc]; exact hp
    · simp at hy) hokp hfresh hr hg hat) hb hg hat
theorem N_append_step (d : Kd α) {w0 W : World} (base : Nat) (hw : Region.wanted o (yielded ops a.tmps) = true) (s x : Operand) (t e : TypeId) (z : Value) (bytes : Nat)
    (ho : o.op = .call { callee := .builtin .append, args := #[s, x], argTypes := #[t, t] })
    (ht : P.underlying t = some (.slice e)) (hinfo : (P.info? e).map (fun i => (i.zero, i.size, i.bytes)) = some (some z, d.sz, bytes)) (hz : z.cells.size = d.sz) (hs0 : 0 < d.sz) (hb0 : 0 < bytes)
    (v : Value) (xs : List α) (p : α) (cs : List Value) (ok okp : Nat → Prop) (hs : a.eval s = v) (hx : a.eval x = .slice (some ⟨W.heap.size, 0, none⟩) 1 1) (hp : FK d W okp p cs) (hokp : ∀ k, okp k → ok k ∧ some k ≠ v.ownBlock) (hfresh : ∀ k, W.heap.size ≤ k → ok k)
    (HO : N d e W base ok v xs) (HB : Below base w0 W) (hbase : base ≤ W.heap.size) (hl : (xs.length + 1) * bytes ≤ 140737488355328)
    (h : ∀ v1 w1, N d e w1 base ok v1 (xs ++ [p]) → Below base w0 w1 → W.grownBy w1 v.ownBlock → (v1.ownBlock = v.ownBlock ∨ ∃ b, v1.ownBlock = some b ∧ W.heap.size ≤ b) → Kc (a.put o.dst v1) w1) :
    if Region.wanted o (yielded ops a.tmps) = true then Oper.wp P o a (W.alloc (.cells cs.toArray e)) Kc Q else Kc (a.put o.dst undef) (W.alloc (.cells cs.toArray e)) := by
  obtain ⟨h0, rows, hlr, hR, hf⟩ := HO
  refine R_append_step (raw d.sz) base hw s x t e z bytes ho ht hinfo hz hs0 hb0 v rows cs cs (fun _ => True) (fun _ => False) hs hx (FK_raw hp) (fun _ hk => hk.elim) (fun _ _ => trivial) (raw_any hR) HB hbase (by rw [hlr]; exact hl) ?_
  intro v1 w1 hr hb hg hat
  exact h v1 w1 (N_appended h0 hlr hf (ys := [p]) (news := [cs]) rfl (fun j y c hy hc => by
    rcases j with _ | j
    · simp only [List.getElem?_cons_zero, Option.some.injEq] at hy hc
      rw [← hy, ← hc]; exact hp
    · simp at hy) hokp hfresh hr hg hat) hb hg hat
theorem N_append_rows (d : Kd α) {w0 W : World} (base : Nat) (hgd : o.guard = none) (s x : Operand) (t e : TypeId) (z : Value) (bytes : Nat)
    (ho : o.op = .call { callee := .builtin .append, args := #[s, x], argTypes := #[t, t] })
    (ht : P.underlying t = some (.slice e)) (hinfo : (P.info? e).map (fun i => (i.zero, i.size, i.bytes)) = some (some z, d.sz, bytes)) (hz : z.cells.size = d.sz) (hs0 : 0 < d.sz) (hb0 : 0 < bytes)
    (v : Value) (xs ys : List α) (A : Option Addr) (m c : Nat) (ok okp : Nat → Prop) (hs : a.eval s = v) (hx : a.eval x = .slice A m c)
    (HO : N d e W base ok v xs) (HR : F d W okp A m ys) (hokp : ∀ k, okp k → ok k ∧ some k ≠ v.ownBlock) (hfresh : ∀ k, W.heap.size ≤ k → ok k)
    (HB : Below base w0 W) (hbase : base ≤ W.heap.size) (hl : (xs.length + m) * bytes ≤ 140737488355328)
    (h : ∀ v1 w1, N d e w1 base ok v1 (xs ++ ys) → Below base w0 w1 → W.grownBy w1 v.ownBlock → (v1.ownBlock = v.ownBlock ∨ ∃ b, v1.ownBlock = some b ∧ W.heap.size ≤ b) → wpList P ops Q rest (a.put o.dst v1) w1) :
    wpList P ops Q (o :: rest) a W := by
  obtain ⟨h0, rows, hlr, hR, hf⟩ := HO
  obtain ⟨news, hnl, hnr, hnf⟩ := reads_raw (F_rows HR) (fun y c hk => ⟨d.K_len (FK_now hk), d.K_one (FK_now hk)⟩)
  refine R_append_rows (raw d.sz) base hgd s x t e z bytes ho ht hinfo hz hs0 hb0 v rows news A m c (fun _ => True) (fun _ => False) hs hx (raw_any hR) hnr (fun _ _ hk => hk) (fun _ hk => hk.elim) (fun _ _ => trivial) HB hbase (by rw [hlr]; exact hl) ?_
  intro v1 w1 hr hb hg hat
  exact h v1 w1 (N_appended h0 hlr hf hnl hnf hokp hfresh hr hg hat) hb hg hat
theorem N_lit (d : Kd α) {w0 W : World} (base e : Nat) (hgd : o.guard = none) {N' : Tmp} (_hd : o.dst = some N') {xs : List α} {inner : List Value} {ok okp : Nat → Prop}
    (hrun : (execOp a.eval o).run P W = .ok (.value (.slice (some ⟨W.heap.size, 0, none⟩) xs.length xs.length)) (W.alloc (.cells inner.toArray e)))
    (hrep : Reps (FK d W okp) d.sz xs inner) (hok : ∀ k, okp k → ok k) (hfresh : ok W.heap.size) (HB : Below base w0 W) (hbase : base ≤ W.heap.size) (hm : xs.length ≤ 9223372036854775807)
    (h : ∀ v1 w1, N d e w1 base ok v1 xs → Below base w0 w1 → W.grownBy w1 none → (∃ b, v1.ownBlock = some b ∧ W.heap.size ≤ b) → wpList P ops Q rest (a.put o.dst v1) w1) :
    wpList P ops Q (o :: rest) a W := by
  refine R_lit (raw d.sz) base e hgd _hd (xs := chunks d.sz xs.length inner) (inner := inner) (ok := fun k => k = W.heap.size) (okp := fun _ => False) (by rw [chunks_length]; exact hrun) (reps_raw hrep (fun y c hk => ⟨d.K_len (FK_now hk), d.K_one (FK_now hk)⟩)) (fun _ hk => hk.elim) rfl HB hbase (by rw [chunks_length]; exact hm) ?_
  intro v1 w1 hr hb hg hat
  exact h v1 w1 (N_made hr hg hat (chunks_length _ _ _) (fun j y c hy hc => by rw [chunks_get hc]; exact hrep.2 j y hy) hok hfresh) hb hg hat
end
end Kd
end Go.Proofs.YthkclagcbjnckaaW.PrintWords


namespace Go.Proofs.YthkclagcbjnckaaW.PrintMore
open Go.RowKit Go.Proofs.YthkclagcbjnckaaW.PrintWords
namespace Kd
open Go.Proofs.YthkclagcbjnckaaW.PrintWords.Kd
end Kd
namespace Kd
open Go.Proofs.YthkclagcbjnckaaW.PrintWords.Kd
section
variable {α : Type} {d : Kd α} {e base g N : Nat} {ok : Nat → Prop} {W w1 : World} {u v : Value} {xs : List α}
end
end Kd
theorem max2_int (k k' : IntKind) (x y : Int) : Builtin.max2 (.int k x) (.int k' y) = pure (.int k (if x < y then y else x)) := by simp only [Builtin.max2, gt_iff_lt]
theorem min2_int (k k' : IntKind) (x y : Int) : Builtin.min2 (.int k x) (.int k' y) = pure (.int k (if y < x then y else x)) := by simp only [Builtin.min2]
theorem max_two (ats : Array TypeId) (ty : TypeId) (a b : Value) : Builtin.max_ ats ty #[a, b] = (Builtin.max2 a b >>= fun s => pure s) := by simp only [Builtin.max_, List.foldlM_cons, List.foldlM_nil]
theorem min_two (ats : Array TypeId) (ty : TypeId) (a b : Value) : Builtin.min_ ats ty #[a, b] = (Builtin.min2 a b >>= fun s => pure s) := by simp only [Builtin.min_, List.foldlM_cons, List.foldlM_nil]
theorem max_three (ats : Array TypeId) (ty : TypeId) (a b c : Value) : Builtin.max_ ats ty #[a, b, c] = (Builtin.max2 a b >>= fun s => Builtin.max2 s c >>= fun s => pure s) := by simp only [Builtin.max_, List.foldlM_cons, List.foldlM_nil]
theorem min_three (ats : Array TypeId) (ty : TypeId) (a b c : Value) : Builtin.min_ ats ty #[a, b, c] = (Builtin.min2 a b >>= fun s => Builtin.min2 s c >>= fun s => pure s) := by simp only [Builtin.min_, List.foldlM_cons, List.foldlM_nil]
theorem max_four (ats : Array TypeId) (ty : TypeId) (a b c d : Value) : Builtin.max_ ats ty #[a, b, c, d] = (Builtin.max2 a b >>= fun s => Builtin.max2 s c >>= fun s => Builtin.max2 s d >>= fun s => pure s) := by simp only [Builtin.max_, List.foldlM_cons, List.foldlM_nil]
theorem min_four (ats : Array TypeId) (ty : TypeId) (a b c d : Value) : Builtin.min_ ats ty #[a, b, c, d] = (Builtin.min2 a b >>= fun s => Builtin.min2 s c >>= fun s => Builtin.min2 s d >>= fun s => pure s) := by simp only [Builtin.min_, List.foldlM_cons, List.foldlM_nil]
end Go.Proofs.YthkclagcbjnckaaW.PrintMore
namespace Go.Proofs.YthkclagcbjnckaaW.PrintWords
open Go.RowKit
section
variable {P : Program} {ops : Array Oper} {rest : List Oper} {o : Oper} {a : Act} {Q : Exit → Act → World → Prop} {W : World}
theorem gate_callee {f : FuncId} {as_ : Array Operand} {ts : Array TypeId} (_ho : o.op = .call { callee := .value (.func f), args := as_, argTypes := ts }) (h : wpList P ops Q (o :: rest) a W) : wpList P ops Q (o :: rest) a W := h
theorem gate_builtin {b : Builtin} {xs : Array Operand} {ts : Array TypeId} (_ho : o.op = .call { callee := .builtin b, args := xs, argTypes := ts }) (h : wpList P ops Q (o :: rest) a W) : wpList P ops Q (o :: rest) a W := h
end
def mx (a b : Int) : Int := if a < b then b else a
namespace Kd
section
variable {α : Type} {d : Kd α} {e base : Nat} {ok : Nat → Prop} {W w1 : World} {v : Value} {xs : List α}
end
section
variable {α : Type} {d : Kd α} {e base g n cap : Nat} {ok oki okp : Nat → Prop} {W : World} {xs : List α} {i : Int} {c : List Value}
end
section
variable {α : Type} {d : Kd α} {e base b b' g N : Nat} {ok ok1 : Nat → Prop} {W W2 w1 : World} {u v : Value} {xs ys : List α} {S : Nat → Prop}
end
end Kd
end Go.Proofs.YthkclagcbjnckaaW.PrintWords
namespace Go.Proofs.YthkclagcbjnckaaW.PrintWords
open Go.RowKit
namespace Kd
def V {α : Type} (d : Kd α) (_e : Nat) (W : World) (_base : Nat) (ok : Nat → Prop) (v : Value) (xs : List α) : Prop := ∃ A c, v = .slice A xs.length c ∧ xs.length ≤ c ∧ F d W ok A xs.length xs
section
variable {α β : Type} {d : Kd α} {e base base' n m c g N' lo hi : Nat} {ok ok' S : Nat → Prop} {w W w1 : World} {A : Option Addr} {ad : Addr} {u v v1 : Value} {xs : List α}
theorem V_map (h : V d e W base ok v xs) (hF : ∀ A, F d W ok A xs.length xs → F d w1 ok' A xs.length xs) : V d e w1 base' ok' v xs := by
  obtain ⟨A, c, hv, hl, hf⟩ := h
  exact ⟨A, c, hv, hl, hF A hf⟩
theorem V_mk (hl : xs.length ≤ c) (hf : F d W ok A xs.length xs) : V d e W base ok (.slice A xs.length c) xs := ⟨A, c, rfl, hl, hf⟩
theorem V_slice (h : V d e W base ok v xs) : ∃ A c, v = .slice A xs.length c := by
  obtain ⟨A, c, hv, _⟩ := h
  exact ⟨A, c, hv⟩
theorem V_at (h : V d e W base ok (.slice A n c) xs) : n = xs.length ∧ n ≤ c ∧ F d W ok A xs.length xs := by
  obtain ⟨A', c', hv, hl, hf⟩ := h
  injection hv with ha hn hc
  subst ha; subst hc
  exact ⟨hn, by rw [hn]; exact hl, hf⟩
theorem V_reads' (h : V d e W base ok (.slice A n c) xs) : n = xs.length ∧ n ≤ c ∧ d.C W A xs.length xs := ⟨(V_at h).1, (V_at h).2.1, F_now (V_at h).2.2⟩
theorem V_F (h : V d e W base ok (.slice A n c) xs) : F d W ok A n xs := by
  obtain ⟨hn, _, hf⟩ := V_at h
  rw [hn]
  exact hf
theorem V_nil (d : Kd α) (e : Nat) (W : World) (base : Nat) (ok : Nat → Prop) : V d e W base ok (.slice none 0 0) [] := ⟨none, 0, rfl, Nat.le_refl _, F_nil d W ok⟩
theorem R_V (h : d.R e W base ok v xs) : V d e W base' ok v xs := by
  obtain ⟨A, c, rfl⟩ := R_slice h
  exact ⟨A, c, rfl, (R_reads' h).2.1, R_F h⟩
theorem N_V (h : N d e W base ok v xs) : V d e W base' ok v xs := by
  obtain ⟨A, c, rfl⟩ := N_slice h
  exact ⟨A, c, rfl, (N_reads' h).2.1, N_F h⟩
theorem V_mono (h : V d e W base ok v xs) (hok : ∀ k, ok k → ok' k) : V d e W base ok' v xs := V_map h (fun _ hf => F_mono hf hok)
theorem V_lower (h : V d e W base ok v xs) (_ : base' ≤ base) : V d e W base' ok v xs := h
theorem V_below (h : V d e W base ok v xs) (hb : Below W.heap.size W w1) : V d e w1 base ok v xs := V_map h (fun _ hf => F_below hf hb)
theorem V_drew (h : V d e W base ok v xs) : V d e W.drew base ok v xs := V_map h (fun _ hf => F_drew hf)
theorem V_drewN (h : V d e W base ok v xs) (m : Nat) : V d e (W.drewN m) base ok v xs := V_map h (fun _ hf => F_drewN hf m)
theorem V_after (h : V d e W base (fun k => ok k ∧ some k ≠ u.ownBlock) v xs) (hg : W.grownBy w1 u.ownBlock) (hat : v1.ownBlock = u.ownBlock ∨ ∃ b, v1.ownBlock = some b ∧ W.heap.size ≤ b) : V d e w1 base (fun k => ok k ∧ some k ≠ v1.ownBlock) v xs := V_map h (fun _ hf => F_after hf hg hat)
theorem V_afterv (h : V d e W base (fun k => ok k ∧ some k ≠ v.ownBlock) u xs) (hg : W.grownBy w1 v.ownBlock) (hat : v1.ownBlock = v.ownBlock ∨ ∃ b, v1.ownBlock = some b ∧ W.heap.size ≤ b) : V d e w1 base (fun k => ok k ∧ some k ≠ v1.ownBlock) u xs := V_after h hg hat
theorem V_apart_nil (h : V d e W base ok v xs) : V d e W base (fun k => ok k ∧ some k ≠ (Value.slice none 0 0).ownBlock) v xs := V_map h (fun _ hf => F_apart_nil hf)
theorem V_elder' (h : V d e W base ok v xs) (hbase : ∀ k, u.ownBlock = some k → W.heap.size ≤ k) (hb : Below W.heap.size W w1) : V d e w1 base (fun k => ok k ∧ some k ≠ u.ownBlock) v xs := V_map h (fun _ hf => F_elder' hf hbase hb)
theorem V_elderB (h : V d e W base ok v xs) (a : Nat) (ha : W.heap.size ≤ a) : V d e W base (fun k => ok k ∧ k ≠ a) v xs := V_map h (fun _ hf => F_elderB hf a ha)
theorem V_get (h : V d e W base ok (.slice (some ad) n c) xs) (z : α) (i : Int) (h0 : 0 ≤ i) (h1 : i < n) :
    ∃ cs, cs.length = d.sz ∧ FK d W ok (xs.getD i.toNat z) cs ∧ ∀ j u, cs[j]? = some u → W.cell? (ad.add (i.toNat * d.sz + j)) = some u := by
  obtain ⟨ad', cs, he, hcl, hK, hcc, _⟩ := F_get (V_F h) z i h0 h1
  injection he with he
  subst he
  exact ⟨cs, hcl, hK, hcc⟩
theorem F_take (h : F d W ok A xs.length xs) (hm : m ≤ xs.length) : F d W ok A (xs.take m).length (xs.take m) := F_imp h (fun _ hC => C_take hC hm)
theorem F_cut (h : F d W ok A xs.length xs) (hm : m ≤ xs.length) (hc : xs.length ≤ c) : F d W ok (if c = m then A else A.map (·.add (m * d.sz))) (xs.drop m).length (xs.drop m) := F_imp h (fun _ hC => C_drop hC hm hc)
theorem R_newM {M : Nat → Prop} (h : d.R e w1 W.heap.size ok v xs) (hle : w.heap.size ≤ W.heap.size) (hM : ∀ k, w.heap.size ≤ k → M k) : d.R e w1 W.heap.size (fun k => M k ∧ ok k) v xs := R_mono (R_bound h) (fun k hk => ⟨hM k (Nat.le_trans hle hk.2.1), hk.1⟩)
end
end Kd
end Go.Proofs.YthkclagcbjnckaaW.PrintWords


namespace Go.Proofs.Ythkclagcbjnckaa.Pa
open Go.RowKit Go.Proofs.YthkclagcbjnckaaW.PrintWords Go.Proofs.YthkclagcbjnckaaW.PrintLast Go.Proofs.YthkclagcbjnckaaW.PrintMore
attribute [local go_sem] max2_int min2_int max_two min_two max_three min_three max_four min_four
set_option linter.unusedVariables false
set_option linter.unusedSimpArgs false
def errW : Option Int → Value
 | none => .nilIface
 | some c => .iface 0 (.int .i64 c)
theorem errW_none : errW none = .nilIface := rfl
theorem errW_some (c : Int) : errW (some c) = .iface 0 (.int .i64 c) := rfl
theorem info3 : (Try.prog.info? 3).map (fun i => (i.zero, i.size, i.bytes)) = some (some (.int .i64 0), 1, 8) := by kernel_rfl
theorem info60 : (Try.prog.info? 60).map (fun i => (i.zero, i.size, i.bytes)) = some (some (.agg #[(.int .i64 0), (.slice none 0 0)]), 2, 32) := by kernel_rfl
structure S60 where
 f0 : Int
 f1 : (List Int)
def z60 : S60 := ⟨(0 : Int), ([] : List Int)⟩
def k60 : Kd S60 := Kd.iso (Kd.pair (Kd.int .i64) (Kd.slice 3 (Kd.int .i64))) (fun x : S60 => (x.f0, x.f1))
theorem k60_heap : Kd.Heap k60 := Kd.heap_iso _ (Kd.heap_pair (Kd.heap_int .i64) (Kd.heap_slice 3 (Kd.heap_int .i64)))
theorem k60_open {w : World} {x : S60} {cs : List Value} (h : k60.K w x cs) : ∃ A1 c1, cs = [.int .i64 x.f0, .slice A1 x.f1.length c1] ∧ x.f1.length ≤ c1 ∧ (Kd.int .i64).C w A1 x.f1.length x.f1 := by
 obtain ⟨_, _, rfl, rfl, ⟨A1, c1, rfl, l1, g1⟩⟩ := h
 exact ⟨A1, c1, rfl, l1, g1⟩
theorem k60_mk (w : World) (x : S60) {A1 : Option Addr} {c1 : Nat} (l1 : x.f1.length ≤ c1) (g1 : (Kd.int .i64).C w A1 x.f1.length x.f1) : k60.K w x [.int .i64 x.f0, .slice A1 x.f1.length c1] := ⟨[.int .i64 x.f0], [.slice A1 x.f1.length c1], rfl, rfl, ⟨A1, c1, rfl, l1, g1⟩⟩
theorem k60_mkM (w : World) (base : Nat) (ok : Nat → Prop) (x : S60) {v1 : Value} (g1 : (Kd.int .i64).R 3 w base ok v1 x.f1) : k60.M w base ok x [.int .i64 x.f0, v1] := ⟨[.int .i64 x.f0], [v1], rfl, rfl, ⟨v1, rfl, g1⟩⟩
theorem k60_openF {W : World} {ok : Nat → Prop} {x : S60} {cs : List Value} (h : Kd.FK k60 W ok x cs) : ∃ A1 c1, cs = [.int .i64 x.f0, .slice A1 x.f1.length c1] ∧ x.f1.length ≤ c1 ∧ Kd.F (Kd.int .i64) W ok A1 x.f1.length x.f1 := by
 obtain ⟨A1, c1, rfl, l1, _⟩ := k60_open (Kd.FK_now h)
 exact ⟨A1, c1, rfl, l1, (fun W' hW => by obtain ⟨A1_, c1_, he, l1_, g1_⟩ := k60_open (h W' hW); injection (Option.some.inj (show some (Value.slice A1 x.f1.length c1) = some (Value.slice A1_ x.f1.length c1_) from congrArg (fun l => l[1]?) he)) with ha_ _ _; rw [ha_]; exact g1_)⟩
theorem k60_mkF (W : World) (ok : Nat → Prop) (x : S60) {A1 : Option Addr} {c1 : Nat} (l1 : x.f1.length ≤ c1) (g1 : Kd.F (Kd.int .i64) W ok A1 x.f1.length x.f1) : Kd.FK k60 W ok x [.int .i64 x.f0, .slice A1 x.f1.length c1] := fun W2 hW => k60_mk W2 x l1 (g1 W2 hW)
def rd_T60 (xs : List S60) (i : Int) : S60 := xs.getD i.toNat z60
theorem at_T60 {w : World} {A : Option Addr} {n : Nat} {xs : List S60} (h : Kd.C k60 w A n xs) (i : Int) (h0 : 0 ≤ i) (h1 : i < n) : ∃ ad A1 c1, A = some ad ∧ w.cell? (ad.add (i.toNat * 2)) = some (.int .i64 (rd_T60 xs i).f0) ∧ w.cell? ⟨(ad.add (i.toNat * 2)).block, (ad.add (i.toNat * 2)).off + 1, none⟩ = some (.slice A1 (rd_T60 xs i).f1.length c1) ∧ (rd_T60 xs i).f1.length ≤ c1 ∧ (Kd.int .i64).C w A1 (rd_T60 xs i).f1.length (rd_T60 xs i).f1 := by
 obtain ⟨ad, c, e, _, hK, hc0⟩ := Kd.C_get h z60 i h0 h1
 have hc : ∀ j u, c[j]? = some u → w.cell? (ad.add (i.toNat * 2 + j)) = some u := hc0
 obtain ⟨A1, c1, rfl, l1, g1⟩ := k60_open hK
 exact ⟨ad, A1, c1, e, hc 0 _ rfl, by rw [← add_field _ _ 1 (by omega)]; exact hc 1 _ rfl, l1, g1⟩
structure S27 where
 f0 : Int
 f1 : Int
 f2 : (List S27)
def z27 : S27 := ⟨(0 : Int), (0 : Int), ([] : List S27)⟩
def F27 (d : Kd S27) : Kd S27 := Kd.iso (Kd.pair (Kd.int .i64) (Kd.pair (Kd.int .i64) (Kd.slice 27 d))) (fun x : S27 => (x.f0, x.f1, x.f2))
theorem mono27 : Kd.Mono F27 := Kd.mono_iso _ (Kd.mono_pair (Kd.mono_const _) (Kd.mono_pair (Kd.mono_const _) (Kd.mono_slice 27 Kd.mono_id)))
theorem sub27 : Kd.Sub F27 [27] := Kd.sub_iso _ (Kd.sub_pair (Kd.sub_const _ (by decide)) (Kd.sub_pair (Kd.sub_const _ (by decide)) (Kd.sub_slice 27 (by decide) Kd.sub_id)))
theorem sz27 : ∀ n, (Kd.upto F27 3 [27] n).sz = 3 := Kd.upto_sz (fun _ => rfl)
def k27 : Kd S27 := Kd.fix F27 3 [27] sz27 (Kd.upto_E sub27)
theorem k27_open {w : World} {x : S27} {cs : List Value} (h : k27.K w x cs) : ∃ A2 c2, cs = [.int .i64 x.f0, .int .i64 x.f1, .slice A2 x.f2.length c2] ∧ x.f2.length ≤ c2 ∧ k27.C w A2 x.f2.length x.f2 := by
 obtain ⟨n, h⟩ := h
 cases n with
 | zero => exact h.elim
 | succ n =>
  obtain ⟨_, _, rfl, rfl, ⟨_, _, rfl, rfl, ⟨A2, c2, rfl, l2, g2⟩⟩⟩ := h
  exact ⟨A2, c2, rfl, l2, Kd.fix_C g2⟩
theorem k27_mk (w : World) (x : S27) {A2 : Option Addr} {c2 : Nat} (l2 : x.f2.length ≤ c2) (g2 : k27.C w A2 x.f2.length x.f2) : k27.K w x [.int .i64 x.f0, .int .i64 x.f1, .slice A2 x.f2.length c2] := by
 obtain ⟨n2, q2⟩ := Kd.fix_C_back mono27 g2
 have r2 := Kd.upto_C_le mono27 sz27 (show n2 ≤ n2 by omega) q2
 exact ⟨n2 + 1, ⟨[.int .i64 x.f0], [.int .i64 x.f1, .slice A2 x.f2.length c2], rfl, rfl, ⟨[.int .i64 x.f1], [.slice A2 x.f2.length c2], rfl, rfl, ⟨A2, c2, rfl, l2, r2⟩⟩⟩⟩
theorem k27_mkF (W : World) (ok : Nat → Prop) (x : S27) {A2 : Option Addr} {c2 : Nat} (l2 : x.f2.length ≤ c2) (g2 : Kd.F k27 W ok A2 x.f2.length x.f2) : Kd.FK k27 W ok x [.int .i64 x.f0, .int .i64 x.f1, .slice A2 x.f2.length c2] := fun W2 hW => k27_mk W2 x l2 (g2 W2 hW)
def rd_T27 (xs : List S27) (i : Int) : S27 := xs.getD i.toNat z27
theorem at_T27 {w : World} {A : Option Addr} {n : Nat} {xs : List S27} (h : Kd.C k27 w A n xs) (i : Int) (h0 : 0 ≤ i) (h1 : i < n) : ∃ ad A2 c2, A = some ad ∧ w.cell? (ad.add (i.toNat * 3)) = some (.int .i64 (rd_T27 xs i).f0) ∧ w.cell? ⟨(ad.add (i.toNat * 3)).block, (ad.add (i.toNat * 3)).off + 1, none⟩ = some (.int .i64 (rd_T27 xs i).f1) ∧ w.cell? ⟨(ad.add (i.toNat * 3)).block, (ad.add (i.toNat * 3)).off + 2, none⟩ = some (.slice A2 (rd_T27 xs i).f2.length c2) ∧ (rd_T27 xs i).f2.length ≤ c2 ∧ k27.C w A2 (rd_T27 xs i).f2.length (rd_T27 xs i).f2 := by
 obtain ⟨ad, c, e, _, hK, hc0⟩ := Kd.C_get h z27 i h0 h1
 have hc : ∀ j u, c[j]? = some u → w.cell? (ad.add (i.toNat * 3 + j)) = some u := hc0
 obtain ⟨A2, c2, rfl, l2, g2⟩ := k27_open hK
 exact ⟨ad, A2, c2, e, hc 0 _ rfl, by rw [← add_field _ _ 1 (by omega)]; exact hc 1 _ rfl, by rw [← add_field _ _ 2 (by omega)]; exact hc 2 _ rfl, l2, g2⟩
end Go.Proofs.Ythkclagcbjnckaa.Pa


namespace Go.Proofs.Ythkclagcbjnckaa.Pa
abbrev Po := List (List Int × Int)
def addM (xs : List Int) (c : Int) : Po → Po
  | [] => [(xs, c)]
  | m :: r => if m.1 = xs then (xs, m.2 + c) :: r else m :: addM xs c r
def coef (xs : List Int) : Po → Int
  | [] => 0
  | m :: r => if m.1 = xs then m.2 else coef xs r
def okC (p : Po) : Prop := ∀ m ∈ p, m.2 ≤ 1000000000000000
def okE (p : Po) : Prop := ∀ m ∈ p, m.1.length = 8 ∧ ∀ x ∈ m.1, 0 ≤ x ∧ x ≤ 60
def okP (p : Po) : Prop := ∀ m ∈ p, 1 ≤ m.2
def nodupK (p : Po) : Prop := p.Pairwise (fun a b => a.1 ≠ b.1)
def fits (p : Po) : Bool := decide (∀ m ∈ p, m.2 ≤ 1000000000000000) && decide (p.length ≤ 200)
theorem fits_iff {p : Po} : fits p = true ↔ okC p ∧ p.length ≤ 200 := by simp [fits, okC]
theorem addM_cases (xs : List Int) (c : Int) : ∀ p : Po, (∃ p1 v p2, p = p1 ++ (xs, v) :: p2 ∧ addM xs c p = p1 ++ (xs, v + c) :: p2 ∧ (∀ m ∈ p1, m.1 ≠ xs) ∧ coef xs p = v) ∨ ((∀ m ∈ p, m.1 ≠ xs) ∧ addM xs c p = p ++ [(xs, c)] ∧ coef xs p = 0)
  | [] => .inr ⟨by simp, rfl, rfl⟩
  | m :: r => by
    by_cases hm : m.1 = xs
    · refine .inl ⟨[], m.2, r, by rw [← hm]; rfl, by simp [addM, hm], by simp, by simp [coef, hm]⟩
    · rcases addM_cases xs c r with ⟨p1, v, p2, h1, h2, h3, h4⟩ | ⟨h1, h2, h3⟩
      · refine .inl ⟨m :: p1, v, p2, by rw [h1]; rfl, by simp [addM, hm, h2], ?_, by simp [coef, hm, h4]⟩
        intro q hq
        rcases List.mem_cons.1 hq with rfl | hq
        · exact hm
        · exact h3 q hq
      · refine .inr ⟨?_, by simp [addM, hm, h2], by simp [coef, hm, h3]⟩
        intro q hq
        rcases List.mem_cons.1 hq with rfl | hq
        · exact hm
        · exact h1 q hq
theorem okP_addM {xs : List Int} {c : Int} {p : Po} (h : okP p) (hc : 1 ≤ c) : okP (addM xs c p) := by
  rcases addM_cases xs c p with ⟨p1, v, p2, h1, h2, _, _⟩ | ⟨_, h2, _⟩
  · rw [h2]
    intro m hm
    simp only [List.mem_append, List.mem_cons] at hm
    rcases hm with hm | rfl | hm
    · exact h m (by rw [h1]; simp [hm])
    · have := h (xs, v) (by rw [h1]; simp); simp only at this ⊢; omega
    · exact h m (by rw [h1]; simp [hm])
  · rw [h2]
    intro m hm
    simp only [List.mem_append, List.mem_singleton] at hm
    rcases hm with hm | rfl
    · exact h m hm
    · exact hc
theorem okE_addM {xs : List Int} {c : Int} {p : Po} (h : okE p) (h8 : xs.length = 8) (hx : ∀ x ∈ xs, 0 ≤ x ∧ x ≤ 60) : okE (addM xs c p) := by
  rcases addM_cases xs c p with ⟨p1, v, p2, h1, h2, _, _⟩ | ⟨_, h2, _⟩
  · rw [h2]
    intro m hm
    simp only [List.mem_append, List.mem_cons] at hm
    rcases hm with hm | rfl | hm
    · exact h m (by rw [h1]; simp [hm])
    · exact ⟨h8, hx⟩
    · exact h m (by rw [h1]; simp [hm])
  · rw [h2]
    intro m hm
    simp only [List.mem_append, List.mem_singleton] at hm
    rcases hm with hm | rfl
    · exact h m hm
    · exact ⟨h8, hx⟩
theorem length_addM (xs : List Int) (c : Int) (p : Po) : p.length ≤ (addM xs c p).length := by
  rcases addM_cases xs c p with ⟨p1, v, p2, h1, h2, _, _⟩ | ⟨_, h2, _⟩
  · rw [h2, h1]; simp
  · rw [h2]; simp
theorem fits_addM {xs : List Int} {c : Int} {p : Po} (h : okC p) : (decide (coef xs p + c ≤ 1000000000000000) && decide (((addM xs c p).length : Int) ≤ 200)) = fits (addM xs c p) := by
  rw [Bool.eq_iff_iff, fits_iff]
  simp only [Bool.and_eq_true, decide_eq_true_eq]
  rcases addM_cases xs c p with ⟨p1, v, p2, h1, h2, _, h4⟩ | ⟨_, h2, h4⟩
  · rw [h2, h4]
    constructor
    · rintro ⟨a, b⟩
      refine ⟨?_, by omega⟩
      intro m hm
      simp only [List.mem_append, List.mem_cons] at hm
      rcases hm with hm | rfl | hm
      · exact h m (by rw [h1]; simp [hm])
      · exact a
      · exact h m (by rw [h1]; simp [hm])
    · rintro ⟨a, b⟩
      exact ⟨a (xs, v + c) (by simp), by omega⟩
  · rw [h2, h4]
    constructor
    · rintro ⟨a, b⟩
      refine ⟨?_, by omega⟩
      intro m hm
      simp only [List.mem_append, List.mem_singleton] at hm
      rcases hm with hm | rfl
      · exact h m hm
      · simpa using a
    · rintro ⟨a, b⟩
      exact ⟨by have := a (xs, c) (by simp); simpa using this, by omega⟩
theorem fits_of_addM {xs : List Int} {c : Int} {p : Po} (hc : 0 ≤ c) (h : fits (addM xs c p) = true) : fits p = true := by
  obtain ⟨h3, h4⟩ := fits_iff.1 h
  have hl := length_addM xs c p
  refine fits_iff.2 ⟨?_, by omega⟩
  intro m hm
  rcases addM_cases xs c p with ⟨p1, v, p2, h1, h2, _, _⟩ | ⟨_, h2, _⟩
  · rw [h1] at hm
    simp only [List.mem_append, List.mem_cons] at hm
    rcases hm with hm | rfl | hm
    · exact h3 m (by rw [h2]; simp [hm])
    · have := h3 (xs, v + c) (by rw [h2]; simp); simp only at this ⊢; omega
    · exact h3 m (by rw [h2]; simp [hm])
  · exact h3 m (by rw [h2]; simp [hm])
theorem nodupK_addM {xs : List Int} {c : Int} {p : Po} (h : nodupK p) : nodupK (addM xs c p) := by
  rcases addM_cases xs c p with ⟨p1, v, p2, h1, h2, _, _⟩ | ⟨h1, h2, _⟩
  · rw [h2]
    rw [h1] at h
    unfold nodupK at h ⊢
    rw [List.pairwise_append, List.pairwise_cons] at h ⊢
    obtain ⟨a, ⟨b, c⟩, d⟩ := h
    refine ⟨a, ⟨b, c⟩, fun x hx y hy => ?_⟩
    rcases List.mem_cons.1 hy with rfl | hy
    · exact d x hx (xs, v) (by simp)
    · exact d x hx y (by simp [hy])
  · rw [h2]
    unfold nodupK
    rw [List.pairwise_append]
    refine ⟨h, by simp, fun x hx y hy => ?_⟩
    simp only [List.mem_singleton] at hy
    subst hy
    exact h1 x hx
def sumL (l : Po) : Po := l.foldl (fun o m => addM m.1 m.2 o) []
theorem sumL_snoc (l : Po) (m : List Int × Int) : sumL (l ++ [m]) = addM m.1 m.2 (sumL l) := by simp [sumL]
theorem snoc_ind {P : Po → Prop} (h0 : P []) (h1 : ∀ l m, P l → P (l ++ [m])) (l : Po) : P l := by
  have : ∀ l : Po, P l.reverse := by
    intro l
    induction l with
    | nil => exact h0
    | cons a r ih => rw [List.reverse_cons]; exact h1 _ _ ih
  have h := this l.reverse
  rwa [List.reverse_reverse] at h
theorem okP_append {l : Po} {m : List Int × Int} (h : okP (l ++ [m])) : okP l ∧ 1 ≤ m.2 := ⟨fun x hx => h x (by simp [hx]), h m (by simp)⟩
theorem okE_append {l : Po} {m : List Int × Int} (h : okE (l ++ [m])) : okE l ∧ m.1.length = 8 ∧ ∀ x ∈ m.1, 0 ≤ x ∧ x ≤ 60 := ⟨fun x hx => h x (by simp [hx]), h m (by simp)⟩
theorem okP_sumL (l : Po) : okP l → okP (sumL l) := by
  refine snoc_ind (P := fun l => okP l → okP (sumL l)) (fun _ m hm => by simp [sumL] at hm) ?_ l
  intro l m ih h
  rw [sumL_snoc]
  exact okP_addM (ih (okP_append h).1) (okP_append h).2
theorem okE_sumL (l : Po) : okE l → okE (sumL l) := by
  refine snoc_ind (P := fun l => okE l → okE (sumL l)) (fun _ m hm => by simp [sumL] at hm) ?_ l
  intro l m ih h
  rw [sumL_snoc]
  exact okE_addM (ih (okE_append h).1) (okE_append h).2.1 (okE_append h).2.2
theorem nodupK_sumL (l : Po) : nodupK (sumL l) := by
  refine snoc_ind (P := fun l => nodupK (sumL l)) (by simp [sumL, nodupK]) ?_ l
  intro l m ih
  rw [sumL_snoc]
  exact nodupK_addM ih
theorem fits_mono (l l' : Po) (hp : okP l') (h : fits (sumL (l ++ l')) = true) : fits (sumL l) = true := by
  revert hp h
  refine snoc_ind (P := fun l' => okP l' → fits (sumL (l ++ l')) = true → fits (sumL l) = true) (fun _ h => by simpa using h) ?_ l'
  intro r m ih hp h
  rw [← List.append_assoc, sumL_snoc] at h
  have := (okP_append hp).2
  exact ih (okP_append hp).1 (fits_of_addM (by omega) h)
theorem fits_false (l l' : Po) (hp : okP l') (h : fits (sumL l) = false) : fits (sumL (l ++ l')) = false := by
  cases hf : fits (sumL (l ++ l')) with
  | false => rfl
  | true => rw [fits_mono l l' hp hf] at h; cases h
def tot (xs : List Int) : Po → Int
  | [] => 0
  | m :: r => (if m.1 = xs then m.2 else 0) + tot xs r
theorem tot_append (xs : List Int) (l l' : Po) : tot xs (l ++ l') = tot xs l + tot xs l' := by
  induction l with
  | nil => simp [tot]
  | cons a r ih => simp only [List.cons_append, tot, ih]; omega
theorem tot_perm (xs : List Int) {l l' : Po} (h : l.Perm l') : tot xs l = tot xs l' := by
  induction h with
  | nil => rfl
  | cons x _ ih => simp only [tot, ih]
  | swap x y l => simp only [tot]; omega
  | trans _ _ h1 h2 => exact h1.trans h2
theorem coef_none {xs : List Int} {p : Po} (h : ∀ m ∈ p, m.1 ≠ xs) : coef xs p = 0 := by
  induction p with
  | nil => rfl
  | cons a r ih => simp only [coef]; rw [if_neg (h a (by simp)), ih (fun m hm => h m (by simp [hm]))]
theorem coef_of_mem {p : Po} (h : nodupK p) {m : List Int × Int} (hm : m ∈ p) : coef m.1 p = m.2 := by
  induction p with
  | nil => cases hm
  | cons a r ih =>
    obtain ⟨h1, h2⟩ := List.pairwise_cons.1 h
    simp only [coef]
    rcases List.mem_cons.1 hm with rfl | hm
    · simp
    · rw [if_neg (h1 m hm), ih h2 hm]
theorem coef_addM (xs ys : List Int) (c : Int) : ∀ p : Po, coef ys (addM xs c p) = coef ys p + if xs = ys then c else 0
  | [] => by simp [addM, coef]
  | m :: r => by
    have ih := coef_addM xs ys c r
    simp only [addM]
    by_cases h1 : m.1 = xs
    · rw [if_pos h1]
      simp only [coef, h1]
      by_cases h2 : xs = ys
      · simp [h2]
      · simp [h2]
    · rw [if_neg h1]
      simp only [coef]
      by_cases h2 : m.1 = ys
      · have h3 : ¬ xs = ys := fun e => h1 (h2.trans e.symm)
        simp [h2, h3]
      · rw [if_neg h2, if_neg h2, ih]
theorem coef_sumL (ys : List Int) (l : Po) : coef ys (sumL l) = tot ys l := by
  refine snoc_ind (P := fun l => coef ys (sumL l) = tot ys l) rfl ?_ l
  intro l m ih
  rw [sumL_snoc, coef_addM, ih, tot_append]
  simp [tot]
theorem mem_keys_addM (xs ys : List Int) (c : Int) (p : Po) : ys ∈ (addM xs c p).map Prod.fst ↔ ys = xs ∨ ys ∈ p.map Prod.fst := by
  rcases addM_cases xs c p with ⟨p1, v, p2, h1, h2, _, _⟩ | ⟨_, h2, _⟩
  · rw [h2, h1]; simp
    intro h; exact .inr (.inl h)
  · rw [h2]; simp; constructor
    · rintro (h | h)
      · exact .inr h
      · exact .inl h
    · rintro (h | h)
      · exact .inr h
      · exact .inl h
theorem mem_keys_sumL (ys : List Int) (l : Po) : ys ∈ (sumL l).map Prod.fst ↔ ys ∈ l.map Prod.fst := by
  refine snoc_ind (P := fun l => ys ∈ (sumL l).map Prod.fst ↔ ys ∈ l.map Prod.fst) (by simp [sumL]) ?_ l
  intro l m ih
  rw [sumL_snoc, mem_keys_addM, ih]
  simp only [List.map_append, List.map_cons, List.map_nil, List.mem_append, List.mem_singleton]
  exact Or.comm
theorem mem_iff_coef {p : Po} (h : nodupK p) (m : List Int × Int) : m ∈ p ↔ m.1 ∈ p.map Prod.fst ∧ coef m.1 p = m.2 := by
  constructor
  · intro hm
    exact ⟨List.mem_map.2 ⟨m, hm, rfl⟩, coef_of_mem h hm⟩
  · rintro ⟨h1, h2⟩
    obtain ⟨q, hq, e⟩ := List.mem_map.1 h1
    have h3 := coef_of_mem h hq
    rw [e, h2] at h3
    have : m = q := Prod.ext e.symm h3
    rw [this]; exact hq
theorem nodup_of_nodupK {p : Po} (h : nodupK p) : p.Nodup := List.Pairwise.imp (fun hab e => hab (by rw [e])) h
theorem perm_of {p q : Po} (hp : nodupK p) (hq : nodupK q) (hk : ∀ xs, xs ∈ p.map Prod.fst ↔ xs ∈ q.map Prod.fst) (hc : ∀ xs, coef xs p = coef xs q) : p.Perm q := by
  rw [List.perm_ext_iff_of_nodup (nodup_of_nodupK hp) (nodup_of_nodupK hq)]
  intro m
  rw [mem_iff_coef hp, mem_iff_coef hq, hk, hc]
theorem sumL_perm {l l' : Po} (h : l.Perm l') : (sumL l).Perm (sumL l') :=
  perm_of (nodupK_sumL l) (nodupK_sumL l') (fun xs => by rw [mem_keys_sumL, mem_keys_sumL, (h.map Prod.fst).mem_iff]) (fun xs => by rw [coef_sumL, coef_sumL, tot_perm xs h])
theorem fits_perm {p q : Po} (h : p.Perm q) : fits p = fits q := by
  rw [Bool.eq_iff_iff, fits_iff, fits_iff, h.length_eq]
  unfold okC
  constructor
  · rintro ⟨a, b⟩; exact ⟨fun m hm => a m (h.mem_iff.2 hm), b⟩
  · rintro ⟨a, b⟩; exact ⟨fun m hm => a m (h.mem_iff.1 hm), b⟩
theorem okE_perm {p q : Po} (h : p.Perm q) (hp : okE p) : okE q := fun m hm => hp m (h.mem_iff.2 hm)
theorem okP_perm {p q : Po} (h : p.Perm q) (hp : okP p) : okP q := fun m hm => hp m (h.mem_iff.2 hm)
end Go.Proofs.Ythkclagcbjnckaa.Pa

namespace Go.Proofs.Ythkclagcbjnckaa.Pa
open Go.RowKit Go.Proofs.RawMap Go.Proofs.YthkclagcbjnckaaW.PrintWords Go.Proofs.YthkclagcbjnckaaW.PrintLast Go.Proofs.YthkclagcbjnckaaW.PrintMore
def keyV (xs : List Int) : Value := .agg (xs.map (Value.int .i64)).toArray
def VK (v : Value) : Prop := ∃ xs : List Int, xs.length = 8 ∧ (∀ x ∈ xs, (Lit.int .i64 x).wf = true) ∧ v = keyV xs
theorem map_inj {α β : Type} {f : α → β} (hf : ∀ a b, f a = f b → a = b) : ∀ {xs ys : List α}, xs.map f = ys.map f → xs = ys
  | [], [], _ => rfl
  | [], _ :: _, h => by cases h
  | _ :: _, [], h => by cases h
  | a :: xs, b :: ys, h => by
    injection h with h1 h2
    rw [hf _ _ h1, map_inj hf h2]
theorem keyV_inj {xs ys : List Int} (h : keyV xs = keyV ys) : xs = ys := by
  injection h with h
  have h2 : xs.map (Value.int .i64) = ys.map (Value.int .i64) := by
    have := congrArg Array.toList h
    simpa using this
  exact map_inj (fun a b hab => by injection hab) h2
theorem tl : laidOutB Try.prog = true := by kernel_rfl
theorem row76 : (76 : TypeId) < Try.prog.types.size := of_decide_eq_true (by kernel_rfl)
theorem arr76 : WideMaps.ArrKey Try.prog 76 3 8 := ⟨Try.underlying76, by kernel_rfl, by kernel_rfl, by kernel_rfl⟩
theorem tsize : ∃ m, Try.prog.types.size = m + 1 := by
  have h := row76
  generalize Try.prog.types.size = n at h ⊢
  obtain ⟨k, hk⟩ := Nat.exists_eq_add_of_lt h
  exact ⟨76 + k, hk⟩
theorem law76 : Maps.Keyed Try.prog 76 := Maps.Keyed.of_law (deep_law_laid tl (m := 2) (by omega) row76 (by kernel_rfl) (by rw [Try.underlying76]))
theorem eight {xs : List Int} (h : xs.length = 8) : ∃ a0 a1 a2 a3 a4 a5 a6 a7, xs = [a0, a1, a2, a3, a4, a5, a6, a7] := by
  match xs, h with
  | [a0, a1, a2, a3, a4, a5, a6, a7], _ => exact ⟨a0, a1, a2, a3, a4, a5, a6, a7, rfl⟩
theorem keyOf_mk {xs : List Int} (h : xs.length = 8) (hw : ∀ x ∈ xs, (Lit.int .i64 x).wf = true) : ∃ l, keyOf Try.prog 76 (keyV xs) = some l := by
  obtain ⟨a0, a1, a2, a3, a4, a5, a6, a7, rfl⟩ := eight h
  have hkt := arr76.keyType tsize
  obtain ⟨m, hm⟩ := tsize
  refine ⟨.string (keyBytes [.int .i64 a0, .int .i64 a1, .int .i64 a2, .int .i64 a3, .int .i64 a4, .int .i64 a5, .int .i64 a6, .int .i64 a7]), ?_⟩
  have w0 := hw a0 (by simp); have w1 := hw a1 (by simp); have w2 := hw a2 (by simp); have w3 := hw a3 (by simp)
  have w4 := hw a4 (by simp); have w5 := hw a5 (by simp); have w6 := hw a6 (by simp); have w7 := hw a7 (by simp)
  unfold keyOf
  simp only [Try.underlying76]
  rw [if_pos (by simp [hkt, Value.formed, Try.underlying76, arr76.size, keyV]), hm]
  unfold Program.keyLits
  simp only [Try.underlying76, Value.cells, keyV]
  rw [if_pos (by rw [arr76.size]; rfl), show List.range 8 = [0, 1, 2, 3, 4, 5, 6, 7] from rfl]
  simp [arr76.one, Program.keyLits, Try.underlying3, w0, w1, w2, w3, w4, w5, w6, w7]
theorem keyOk : KeyOk Try.prog 76 VK where
  check w em v h := by obtain ⟨xs, h1, h2, rfl⟩ := h; obtain ⟨l, hl⟩ := keyOf_mk h1 h2; exact law76.check w em hl
  find w x h es hes := by
    obtain ⟨xs, h1, h2, rfl⟩ := h
    obtain ⟨l, hl⟩ := keyOf_mk h1 h2
    exact law76.find w hl es (fun e he => by obtain ⟨ys, h3, h4, e1⟩ := hes e he; rw [e1]; exact keyOf_mk h3 h4)
  stays w v h := by obtain ⟨xs, h1, h2, rfl⟩ := h; obtain ⟨l, hl⟩ := keyOf_mk h1 h2; exact law76.stays w hl
def enc (p : List Int × Int) : Value × Value := (keyV p.1, .int .i64 p.2)
def PIs (w : World) (b : Nat) (p : Po) : Prop := MapIs w VK b (p.map enc)
end Go.Proofs.Ythkclagcbjnckaa.Pa

namespace Go.Proofs.Ythkclagcbjnckaa.Pa
open Go.RowKit Go.Proofs.RawMap Go.Proofs.YthkclagcbjnckaaW.PrintWords Go.Proofs.YthkclagcbjnckaaW.PrintLast Go.Proofs.YthkclagcbjnckaaW.PrintMore
theorem grown0 (w : World) (o : Obj) (row : Option Nat) : w.grownBy (w.alloc o).drew row := ⟨rfl, rfl, rfl, by simp [World.drew], fun i hi _ => Below.heap_alloc w _ i hi⟩
set_option maxRecDepth 100000 in
set_option maxHeartbeats 2000000 in
theorem add_core (b : Nat) (a0 a1 a2 a3 a4 a5 a6 a7 v c st : Int) (n : Nat) (w w1 w2 : World) (hb : b < w.heap.size) (p : Po)
    (hv0 : 0 ≤ v) (hv1 : v ≤ 1000000000000000) (hc0 : 0 ≤ c) (hc1 : c ≤ 1000000000000000)
    (r0 : (Instr.lookup 63 (.map (some b)) (.agg #[.int .i64 a0, .int .i64 a1, .int .i64 a2, .int .i64 a3, .int .i64 a4, .int .i64 a5, .int .i64 a6, .int .i64 a7]) false).run Try.prog (w.alloc (.cells #[.int .i64 a0, .int .i64 a1, .int .i64 a2, .int .i64 a3, .int .i64 a4, .int .i64 a5, .int .i64 a6, .int .i64 a7] 76)).drew = .ok (.int .i64 v) (w.alloc (.cells #[.int .i64 a0, .int .i64 a1, .int .i64 a2, .int .i64 a3, .int .i64 a4, .int .i64 a5, .int .i64 a6, .int .i64 a7] 76)).drew)
    (r1 : (Instr.mapEntry 63 (.map (some b)) (.agg #[.int .i64 a0, .int .i64 a1, .int .i64 a2, .int .i64 a3, .int .i64 a4, .int .i64 a5, .int .i64 a6, .int .i64 a7])).run Try.prog (w.alloc (.cells #[.int .i64 a0, .int .i64 a1, .int .i64 a2, .int .i64 a3, .int .i64 a4, .int .i64 a5, .int .i64 a6, .int .i64 a7] 76)).drew = .ok (.tuple #[.int .i64 v, .int .i64 st]) w1)
    (r2 : (Instr.lookup 63 (.map (some b)) (.agg #[.int .i64 a0, .int .i64 a1, .int .i64 a2, .int .i64 a3, .int .i64 a4, .int .i64 a5, .int .i64 a6, .int .i64 a7]) false).run Try.prog w1 = .ok (.int .i64 v) w1)
    (r3 : (Instr.entryStore 63 (.map (some b)) (.int .i64 st) (.int .i64 (v + c))).run Try.prog w1 = .ok () w2)
    (r4 : (Instr.lookup 63 (.map (some b)) (.agg #[.int .i64 a0, .int .i64 a1, .int .i64 a2, .int .i64 a3, .int .i64 a4, .int .i64 a5, .int .i64 a6, .int .i64 a7]) false).run Try.prog w2 = .ok (.int .i64 (v + c)) w2)
    (r5 : ∀ ty, (Builtin.len_ #[63] ty #[.map (some b)]).run Try.prog w2 = .ok (.int .i64 n) w2)
    (hg1 : (w.alloc (.cells #[.int .i64 a0, .int .i64 a1, .int .i64 a2, .int .i64 a3, .int .i64 a4, .int .i64 a5, .int .i64 a6, .int .i64 a7] 76)).drew.grownBy w1 (some b)) (hg2 : w1.grownBy w2 (some b)) (hp : PIs w2 b p) :
    Calls Try.prog 94 #[.map (some b), .agg #[.int .i64 a0, .int .i64 a1, .int .i64 a2, .int .i64 a3, .int .i64 a4, .int .i64 a5, .int .i64 a6, .int .i64 a7], .int .i64 c] w fun e w' =>
      e = .returned (.bool (decide (v + c ≤ 1000000000000000) && decide ((n : Int) ≤ 200))) ∧ PIs w' b p ∧ w.grownBy w' (some b) := by
  have G2 := Aside0.mk (show PIs w2 b p ∧ w.grownBy w2 (some b) from ⟨hp, World.grownBy.trans (grown0 w _ _) (World.grownBy.trans hg1 hg2)⟩)
  have hb1 : w1.heap[w.heap.size]? = some (.cells #[.int .i64 a0, .int .i64 a1, .int .i64 a2, .int .i64 a3, .int .i64 a4, .int .i64 a5, .int .i64 a6, .int .i64 a7] 76 (0, 0)) := by
    rw [hg1.block w.heap.size (by simp [World.drew]) (by simp; omega)]
    exact heap_alloc_new w _
  have hb2 : w2.heap[w.heap.size]? = some (.cells #[.int .i64 a0, .int .i64 a1, .int .i64 a2, .int .i64 a3, .int .i64 a4, .int .i64 a5, .int .i64 a6, .int .i64 a7] 76 (0, 0)) := by
    rw [hg2.block w.heap.size (Nat.lt_of_lt_of_le (by simp [World.drew]) hg1.size) (by simp; omega)]
    exact hb1
  have cz0 : w2.cell? ⟨w.heap.size, 0, none⟩ = some (.int .i64 a0) := (blk_cell hb2 0).trans rfl
  have cz1 : w2.cell? ⟨w.heap.size, 1, none⟩ = some (.int .i64 a1) := (blk_cell hb2 1).trans rfl
  have cz2 : w2.cell? ⟨w.heap.size, 2, none⟩ = some (.int .i64 a2) := (blk_cell hb2 2).trans rfl
  have cz3 : w2.cell? ⟨w.heap.size, 3, none⟩ = some (.int .i64 a3) := (blk_cell hb2 3).trans rfl
  have cz4 : w2.cell? ⟨w.heap.size, 4, none⟩ = some (.int .i64 a4) := (blk_cell hb2 4).trans rfl
  have cz5 : w2.cell? ⟨w.heap.size, 5, none⟩ = some (.int .i64 a5) := (blk_cell hb2 5).trans rfl
  have cz6 : w2.cell? ⟨w.heap.size, 6, none⟩ = some (.int .i64 a6) := (blk_cell hb2 6).trans rfl
  have cz7 : w2.cell? ⟨w.heap.size, 7, none⟩ = some (.int .i64 a7) := (blk_cell hb2 7).trans rfl
  clear hb1 hb2 hg1 hg2 hp hb
  have r5 := r5 3
  by_cases hvc : v + c ≤ 1000000000000000
  · have bvc : decide (v + c ≤ 1000000000000000) = true := by simpa using hvc
    go_enter Try.func94, Try.ntmps94
    go_wp2
    go_big_region
    go_wp2
    go_ret
    exact ⟨by rw [bvc]; rfl, G2.out.1, G2.out.2⟩
  · have bvc : decide (v + c ≤ 1000000000000000) = false := by simpa using hvc
    go_enter Try.func94, Try.ntmps94
    go_wp2
    go_big_region
    go_wp2
    go_ret
    exact ⟨by rw [bvc]; rfl, G2.out.1, G2.out.2⟩
theorem add_in (b : Nat) (p1 p2 : Po) (xs : List Int) (v c : Int) (w : World) (hx : xs.length = 8) (hv : VK (keyV xs))
    (h : PIs w b (p1 ++ (xs, v) :: p2)) (hv0 : 0 ≤ v) (hv1 : v ≤ 1000000000000000) (hc0 : 0 ≤ c) (hc1 : c ≤ 1000000000000000) :
    Calls Try.prog 94 #[.map (some b), keyV xs, .int .i64 c] w fun e w' =>
      e = .returned (.bool (decide (v + c ≤ 1000000000000000) && decide (((p1 ++ (xs, v + c) :: p2).length : Int) ≤ 200))) ∧ PIs w' b (p1 ++ (xs, v + c) :: p2) ∧ w.grownBy w' (some b) := by
  obtain ⟨a0, a1, a2, a3, a4, a5, a6, a7, rfl⟩ := eight hx
  have hK := keyOk
  have hb : b < w.heap.size := h.lt
  have H0 : MapIs (w.alloc (.cells #[.int .i64 a0, .int .i64 a1, .int .i64 a2, .int .i64 a3, .int .i64 a4, .int .i64 a5, .int .i64 a6, .int .i64 a7] 76)).drew VK b (p1.map enc ++ (keyV [a0, a1, a2, a3, a4, a5, a6, a7], .int .i64 v) :: p2.map enc) := by
    have := MapIs.kept h (grown0 w (.cells #[.int .i64 a0, .int .i64 a1, .int .i64 a2, .int .i64 a3, .int .i64 a4, .int .i64 a5, .int .i64 a6, .int .i64 a7] 76) none) (by simp)
    simpa [enc] using this
  have hmem : (keyV [a0, a1, a2, a3, a4, a5, a6, a7], Value.int .i64 v) ∈ p1.map enc ++ (keyV [a0, a1, a2, a3, a4, a5, a6, a7], .int .i64 v) :: p2.map enc := by simp
  have r0 := H0.look_in hK Try.underlying63 hv hmem false
  obtain ⟨st, w1, r1, H1, hg1, hst⟩ := H0.entry_in hK Try.underlying63 hv rfl
  have r2 := H1.look_in hK Try.underlying63 hv hmem false
  obtain ⟨w2, r3, H2, hg2⟩ := hst (.int .i64 (v + c))
  have r4 := H2.look_in (v := .int .i64 (v + c)) hK Try.underlying63 hv (by simp) false
  have r5 := fun ty => H2.len Try.underlying63 ty
  have hlen : ((List.map enc p1 ++ (keyV [a0, a1, a2, a3, a4, a5, a6, a7], Value.int IntKind.i64 (v + c)) :: List.map enc p2).length : Int) = ((p1 ++ ([a0, a1, a2, a3, a4, a5, a6, a7], v + c) :: p2).length : Nat) := by simp
  simp only [hlen] at r5
  exact add_core b a0 a1 a2 a3 a4 a5 a6 a7 v c st _ w w1 w2 hb _ hv0 hv1 hc0 hc1 r0 r1 r2 r3 r4 r5 hg1 hg2 (by simpa [PIs, enc] using H2)
theorem add_out (b : Nat) (p : Po) (xs : List Int) (c : Int) (w : World) (hx : xs.length = 8) (hv : VK (keyV xs))
    (h : PIs w b p) (hn : ∀ m ∈ p, m.1 ≠ xs) (hc0 : 0 ≤ c) (hc1 : c ≤ 1000000000000000) :
    Calls Try.prog 94 #[.map (some b), keyV xs, .int .i64 c] w fun e w' =>
      e = .returned (.bool (decide (c ≤ 1000000000000000) && decide (((p ++ [(xs, c)]).length : Int) ≤ 200))) ∧ PIs w' b (p ++ [(xs, c)]) ∧ w.grownBy w' (some b) := by
  obtain ⟨a0, a1, a2, a3, a4, a5, a6, a7, rfl⟩ := eight hx
  have hK := keyOk
  have hb : b < w.heap.size := h.lt
  have H0 : MapIs (w.alloc (.cells #[.int .i64 a0, .int .i64 a1, .int .i64 a2, .int .i64 a3, .int .i64 a4, .int .i64 a5, .int .i64 a6, .int .i64 a7] 76)).drew VK b (p.map enc) := MapIs.kept h (grown0 w (.cells #[.int .i64 a0, .int .i64 a1, .int .i64 a2, .int .i64 a3, .int .i64 a4, .int .i64 a5, .int .i64 a6, .int .i64 a7] 76) none) (by simp)
  have hout : ∀ q ∈ p.map enc, q.1 ≠ keyV [a0, a1, a2, a3, a4, a5, a6, a7] := by
    intro q hq
    obtain ⟨m, hm, rfl⟩ := List.mem_map.1 hq
    exact fun e => hn m hm (keyV_inj e)
  have r0 := H0.look_out hK Try.underlying63 (Try.zeroValue3 _) hv hout false
  obtain ⟨st, w1, r1, H1, hg1, hst⟩ := H0.entry_out hK Try.underlying63 Try.zeroValue3 hv hout
  have r2 := H1.look_in (v := .int .i64 0) hK Try.underlying63 hv (by simp) false
  obtain ⟨w2, r3, H2, hg2⟩ := hst (.int .i64 (0 + c))
  have r4 := H2.look_in (v := .int .i64 (0 + c)) hK Try.underlying63 hv (by simp) false
  have r5 := fun ty => H2.len Try.underlying63 ty
  have hlen : ((List.map enc p ++ [(keyV [a0, a1, a2, a3, a4, a5, a6, a7], Value.int IntKind.i64 (0 + c))]).length : Int) = ((p ++ [([a0, a1, a2, a3, a4, a5, a6, a7], c)]).length : Nat) := by simp
  simp only [hlen] at r5
  have := add_core b a0 a1 a2 a3 a4 a5 a6 a7 0 c st _ w w1 w2 hb (p ++ [([a0, a1, a2, a3, a4, a5, a6, a7], c)]) (by omega) (by omega) hc0 hc1 r0 r1 r2 r3 r4 r5 hg1 hg2 (by rw [Int.zero_add] at H2; simpa [PIs, enc] using H2)
  rwa [Int.zero_add] at this
theorem VK_of {xs : List Int} (h : xs.length = 8) (hw : ∀ x ∈ xs, 0 ≤ x ∧ x ≤ 60) : VK (keyV xs) :=
  ⟨xs, h, fun x hx => WalkArith.wf_i64 (by have := hw x hx; omega), rfl⟩
theorem add_c (b : Nat) (p : Po) (xs : List Int) (c : Int) (w : World) (hx : xs.length = 8) (hw : ∀ x ∈ xs, 0 ≤ x ∧ x ≤ 60) (h : PIs w b p) (hC : okC p) (hP : okP p) (hc0 : 0 ≤ c) (hc1 : c ≤ 1000000000000000) :
    Calls Try.prog 94 #[.map (some b), keyV xs, .int .i64 c] w fun e w' =>
      e = .returned (.bool (decide (coef xs p + c ≤ 1000000000000000) && decide (((addM xs c p).length : Int) ≤ 200))) ∧ PIs w' b (addM xs c p) ∧ w.grownBy w' (some b) := by
  rcases addM_cases xs c p with ⟨p1, v, p2, h1, h2, _, h4⟩ | ⟨h1, h2, h3⟩
  · subst h1
    rw [h2, h4]
    exact add_in b p1 p2 xs v c w hx (VK_of hx hw) h (by have := hP (xs, v) (by simp); simp only at this; omega) (hC (xs, v) (by simp)) hc0 hc1
  · rw [h2, h3, Int.zero_add]
    exact add_out b p xs c w hx (VK_of hx hw) h h1 hc0 hc1
end Go.Proofs.Ythkclagcbjnckaa.Pa

namespace Go.Proofs.Ythkclagcbjnckaa.Pa
open Go.RowKit Go.Proofs.RawMap Go.Proofs.YthkclagcbjnckaaW.PrintWords Go.Proofs.YthkclagcbjnckaaW.PrintLast Go.Proofs.YthkclagcbjnckaaW.PrintMore
structure Good (p : Po) : Prop where
  ge : okE p
  gp : okP p
  gc : okC p
structure PlusLoop (w w' : World) (B : Nat) (b1 b2 : Nat) (p q : Po) (k : Nat) (l : Po) : Prop where
  perm : l.Perm (if k = 0 then [] else if k = 1 then p else p ++ q)
  own : PIs w' B (sumL l)
  fit : fits (sumL l) = true
  m1 : PIs w' b1 p
  m2 : PIs w' b2 q
  blk : w'.heap[B + 1]? = some (.cells #[.map (some b1), .map (some b2)] 63 (0, 0))
  below : Below w.heap.size w w'
structure PlusIn (w w' : World) (B : Nat) (b1 b2 : Nat) (p q : Po) (bk r : Nat) (pk l2 left : Po) : Prop where
  own : PIs w' B (sumL l2)
  fit : fits (sumL l2) = true
  rng : Ranges w' VK bk r (pk.map enc) (left.map enc)
  m1 : PIs w' b1 p
  m2 : PIs w' b2 q
  blk : w'.heap[B + 1]? = some (.cells #[.map (some b1), .map (some b2)] 63 (0, 0))
  below : Below w.heap.size w w'
  hr : w.heap.size + 2 ≤ r
  hb1 : b1 < w.heap.size
  hb2 : b2 < w.heap.size
  hbk : bk < w.heap.size
theorem PIs.kept {w w1 : World} {b : Nat} {p : Po} {row : Option Nat} (h : PIs w b p) (hg : w.grownBy w1 row) (hne : some b ≠ row) : PIs w1 b p := MapIs.kept h hg hne
theorem PlusIn.step {w w' w1 w2 : World} {b1 b2 bk r : Nat} {p q pk l2 y1 y2 : Po} {m : List Int × Int} {o : Obj} (h : PlusIn w w' w.heap.size b1 b2 p q bk r pk l2 (y1 ++ m :: y2))
    (hr : Ranges w1 VK bk r (pk.map enc) (y1.map enc ++ y2.map enc)) (hg1 : w'.grownBy w1 (some r)) (hs : w1.heap.size = w'.heap.size) (ho : PIs w2 w.heap.size (addM m.1 m.2 (sumL l2))) (hg2 : (w1.alloc o).grownBy w2 (some w.heap.size))
    (hf : fits (addM m.1 m.2 (sumL l2)) = true) : PlusIn w w2 w.heap.size b1 b2 p q bk r pk (l2 ++ [m]) (y1 ++ y2) := by
  have hr0 := h.hr
  have hb1 := h.hb1
  have hb2 := h.hb2
  have hbk := h.hbk
  have hsz : w.heap.size + 2 ≤ w'.heap.size := by have := h.rng.lt; omega
  have ga := World.grownBy_alloc w1 o none
  refine ⟨by rw [sumL_snoc]; exact ho, by rw [sumL_snoc]; exact hf, ?_, ?_, ?_, ?_, ?_, hr0, hb1, hb2, hbk⟩
  · rw [List.map_append]
    exact (hr.kept ga (by simp) (by simp)).kept hg2 (by simp; omega) (by simp; omega)
  · exact ((h.m1.kept hg1 (by simp; omega)).kept ga (by simp)).kept hg2 (by simp; omega)
  · exact ((h.m2.kept hg1 (by simp; omega)).kept ga (by simp)).kept hg2 (by simp; omega)
  · rw [hg2.block _ (by simp; omega) (by simp), Below.heap_alloc _ _ _ (by omega), hg1.block _ (by omega) (by simp; omega)]
    exact h.blk
  · refine ((h.below.grown hg1 (by omega) (fun k hk => ?_)).alloc (by omega) o).grown hg2 (by simp; omega) (fun k hk => ?_)
    · injection hk with hk; omega
    · injection hk with hk; omega
theorem split_map {l1 l2 : List (Value × Value)} {x : Value × Value} {p : Po} (h : p.map enc = l1 ++ x :: l2) : ∃ y1 m y2, p = y1 ++ m :: y2 ∧ l1 = y1.map enc ∧ enc m = x ∧ l2 = y2.map enc := by
  obtain ⟨y1, r, h1, h2, h3⟩ := List.map_eq_append_iff.1 h
  obtain ⟨m, y2, h4, h5, h6⟩ := List.map_eq_cons_iff.1 h3
  exact ⟨y1, m, y2, by rw [h1, h4], h2.symm, h5, h6.symm⟩
set_option maxRecDepth 100000 in
set_option maxHeartbeats 2000000 in
theorem plus_c (b1 b2 : Nat) (p q : Po) (w : World) (h1 : PIs w b1 p) (h2 : PIs w b2 q) (g1 : Good p) (g2 : Good q) :
    Calls Try.prog 73 #[.map (some b1), .map (some b2)] w fun e w' => ∃ (l : Po) (r : Option Nat), l.Perm (p ++ q) ∧ e = .returned (.tuple #[.map r, .bool (fits (sumL l))]) ∧
      (fits (sumL l) = true → ∃ b3, r = some b3 ∧ w.heap.size ≤ b3 ∧ PIs w' b3 (sumL l)) ∧ Below w.heap.size w w' := by
  have hmm := @run_makeMap Try.prog
  have H1 := Aside0.mk h1
  have H2 := Aside0.mk h2
  have G1 := Aside0.mk g1
  have G2 := Aside0.mk g2
  clear h1 h2 g1 g2
  go_enter Try.func73, Try.ntmps73
  go_wp2
  go_loopw [16] (fun v16 w' => ∃ (k : Nat) (l : Po), v16 = .int .i64 k ∧ k ≤ 2 ∧ PlusLoop w w' w.heap.size b1 b2 p q k l) (fun v16 _ => 2 - (intOf v16).toNat)
  case atStart =>
    have hb1 : b1 < w.heap.size := H1.out.lt
    have hb2 : b2 < w.heap.size := H2.out.lt
    have ga : ∀ (W : World) (o : Obj), W.grownBy (W.alloc o) none := fun W o => World.grownBy_alloc W o none
    refine ⟨0, [], rfl, by omega, List.Perm.refl _, ?_, rfl, ?_, ?_, ?_, ?_⟩
    · exact MapIs.kept (MapIs.made w VK) (ga _ _) (by simp)
    · exact (H1.out.kept (ga _ _) (by simp)).kept (ga _ _) (by simp)
    · exact (H2.out.kept (ga _ _) (by simp)).kept (ga _ _) (by simp)
    · have := heap_alloc_new (w.alloc (.map #[] 0)) (.cells #[.map (some b1), .map (some b2)] 63)
      rwa [World.size_alloc] at this
    · exact ((Below.refl _ _).alloc (Nat.le_refl _) _).alloc (by simp) _
  case round =>
    obtain ⟨k, l, rfl, hk, HL⟩ := hrel
    have HL := Aside0.mk HL
    obtain ⟨wo, rfl⟩ : ∃ wo : World, wo = wr := ⟨_, rfl⟩
    by_cases hlt : k < 2
    · obtain ⟨bk, pk, hcell, hpk, hgk, hpm, hbk⟩ : ∃ bk pk, wo.cell? ⟨w.heap.size + 1, k, none⟩ = some (.map (some bk)) ∧ PIs wo bk pk ∧ Good pk ∧ (∀ l2 : Po, l2.Perm (l ++ pk) → l2.Perm (if k + 1 = 0 then [] else if k + 1 = 1 then p else p ++ q)) ∧ bk < w.heap.size := by
        have hperm := HL.out.perm
        by_cases h0 : k = 0
        · subst h0
          refine ⟨b1, p, (blk_cell HL.out.blk 0).trans rfl, HL.out.m1, G1.out, fun l2 h2 => ?_, H1.out.lt⟩
          rw [if_pos rfl] at hperm
          rw [if_neg (by omega), if_pos rfl]
          have := List.Perm.eq_nil hperm
          rwa [this] at h2
        · obtain rfl : k = 1 := by omega
          refine ⟨b2, q, (blk_cell HL.out.blk 1).trans rfl, HL.out.m2, G2.out, fun l2 h2 => ?_, H2.out.lt⟩
          rw [if_neg (by omega), if_pos rfl] at hperm
          rw [if_neg (by omega), if_neg (by omega)]
          exact h2.trans (hperm.append_right q)
      have HK := Aside0.mk hpk
      have HG := Aside0.mk hgk
      have HP := Aside0.mk hpm
      obtain ⟨w0, hrun, hra, hgr, hsz⟩ := MapIs.range hpk Try.underlying63
      have HA := Aside0.mk hra
      have HR := Aside0.mk hgr
      clear hpk hgk hpm hra hgr hsz
      have bk1 : decide ((k : Int) < 2) = true := decide_eq_true (by omega)
      go_wp2
      go_loopg [] pk.length (fun kq w' => ∃ (l2 left : Po), left.length = kq ∧ (l2 ++ left).Perm (l ++ pk) ∧ PlusIn w w' w.heap.size b1 b2 p q bk wo.heap.size pk l2 left)
      case atStart =>
        have hs2 : w.heap.size + 2 ≤ wo.heap.size := by have := blk_lt HL.out.blk; omega
        refine ⟨l, pk, rfl, List.Perm.refl _, HL.out.own.kept HR.out (by simp), HL.out.fit, HA.out, HL.out.m1.kept HR.out (by simp), HL.out.m2.kept HR.out (by simp), ?_, HL.out.below.grown HR.out (by omega) (fun k hk => by cases hk), hs2, H1.out.lt, H2.out.lt, hbk⟩
        rw [HR.out.block _ (by omega) (by simp)]
        exact HL.out.blk
      case round =>
        obtain ⟨l2, left, rfl, hpm, HI⟩ := hrel
        have HPM := Aside0.mk hpm
        have HI := Aside0.mk HI
        clear hpm
        rcases HI.out.rng.next (P := Try.prog) 0 with ⟨h0, hrun2⟩ | ⟨x1, key, v, x2, w1, hle, hmem, hVk, hrun2, hrng, hg1, hs1, hen⟩
        · have hl0 : left = [] := by cases left with | nil => rfl | cons a r => cases h0
          subst hl0
          clear h0
          go_wp2
          go_roundw
          case rel =>
            have h3 := HPM.out
            rw [List.append_nil] at h3
            exact ⟨k + 1, l2, by go_num, by omega, HP.out l2 h3, HI.out.own, HI.out.fit, HI.out.m1, HI.out.m2, HI.out.blk, HI.out.below⟩
          case measure => simp [intOf]; omega
        · obtain ⟨y1, m, y2, rfl, rfl, he, rfl⟩ := split_map hle
          have hmem0 : m ∈ pk := by
            rw [← he] at hmem
            obtain ⟨m', hm', e'⟩ := List.mem_map.1 hmem
            have : m' = m := by
              obtain ⟨x, y⟩ := m; obtain ⟨x', y'⟩ := m'
              injection e' with e1 e2
              injection e2 with _ e2
              exact Prod.ext (keyV_inj e1) e2
            rw [← this]; exact hm'
          obtain ⟨mx, mc⟩ := m
          obtain ⟨a0, a1, a2, a3, a4, a5, a6, a7, rfl⟩ : ∃ a0 a1 a2 a3 a4 a5 a6 a7, mx = [a0, a1, a2, a3, a4, a5, a6, a7] := eight (HG.out.ge _ hmem0).1
          injection he with hk1 hv1
          subst hk1
          subst hv1
          have e0 : keyV [a0, a1, a2, a3, a4, a5, a6, a7] = .agg #[.int .i64 a0, .int .i64 a1, .int .i64 a2, .int .i64 a3, .int .i64 a4, .int .i64 a5, .int .i64 a6, .int .i64 a7] := rfl
          simp only [e0] at hrun2 hen
          have HRNG := Aside0.mk hrng
          have HG1 := Aside0.mk hg1
          have hE := HG.out.ge _ hmem0
          have hP := HG.out.gp _ hmem0
          have hC := HG.out.gc _ hmem0
          simp only at hE hP hC
          have hlE : okE l2 ∧ okP l2 := by
            have hbase : okE l ∧ okP l := by
              have := HL.out.perm
              by_cases h0 : k = 0
              · rw [if_pos h0] at this; rw [List.Perm.eq_nil this]; exact ⟨(fun m hm => by cases hm), (fun m hm => by cases hm)⟩
              · rw [if_neg h0, if_pos (by omega)] at this
                exact ⟨okE_perm this.symm G1.out.ge, okP_perm this.symm G1.out.gp⟩
            have hall : okE (l ++ pk) ∧ okP (l ++ pk) := ⟨fun m hm => (List.mem_append.1 hm).elim (hbase.1 m) (HG.out.ge m), fun m hm => (List.mem_append.1 hm).elim (hbase.2 m) (HG.out.gp m)⟩
            have h1 := okE_perm HPM.out.symm hall.1
            have h2 := okP_perm HPM.out.symm hall.2
            exact ⟨fun m hm => h1 m (by simp [hm]), fun m hm => h2 m (by simp [hm])⟩
          have hpl : okP (y1 ++ y2) := by
            have hall : okP (l ++ pk) := by
              have := HL.out.perm
              have hb : okP l := by
                by_cases h0 : k = 0
                · rw [if_pos h0] at this; rw [List.Perm.eq_nil this]; exact fun m hm => by cases hm
                · rw [if_neg h0, if_pos (by omega)] at this
                  exact okP_perm this.symm G1.out.gp
              exact fun m hm => (List.mem_append.1 hm).elim (hb m) (HG.out.gp m)
            have h2 := okP_perm HPM.out.symm hall
            intro m hm
            refine h2 m ?_
            rcases List.mem_append.1 hm with hm | hm <;> simp [hm]
          have hpm2 : (l2 ++ [([a0, a1, a2, a3, a4, a5, a6, a7], mc)] ++ (y1 ++ y2)).Perm (l ++ pk) := by
            refine List.Perm.trans ?_ HPM.out
            rw [List.append_assoc]
            refine List.Perm.append_left _ ?_
            show (([a0, a1, a2, a3, a4, a5, a6, a7], mc) :: (y1 ++ y2)).Perm _
            exact List.perm_middle.symm
          have hadd := add_c w.heap.size (sumL l2) [a0, a1, a2, a3, a4, a5, a6, a7] mc (w1.alloc (.cells #[.int .i64 a0, .int .i64 a1, .int .i64 a2, .int .i64 a3, .int .i64 a4, .int .i64 a5, .int .i64 a6, .int .i64 a7] 76)) rfl hE.2
            ((HI.out.own.kept hg1 (by have := HI.out.hr; simp; omega)).kept (World.grownBy_alloc _ _ none) (by simp)) (fits_iff.1 HI.out.fit).1 (okP_sumL l2 hlE.2) (by omega) hC
          rw [fits_addM (fits_iff.1 HI.out.fit).1] at hadd
          have HADD := Aside0.mk hadd
          have HPL := Aside0.mk hpl
          have HPM2 := Aside0.mk hpm2
          have HS := Aside0.mk hs1
          clear hle hmem hVk hrng hg1 e0 hE hP hC hadd hmem0 hlE hpl hpm2 hs1
          go_wp2_with fail
          refine HADD.out.mono ?_
          rintro e w2 ⟨rfl, hown, hgr2⟩
          have HO := Aside0.mk hown
          have HG2 := Aside0.mk hgr2
          clear hown hgr2
          cases hft : fits (addM [a0, a1, a2, a3, a4, a5, a6, a7] mc (sumL l2)) with
          | true =>
            have HF := Aside0.mk hft
            clear hft
            go_wp2
            go_roundg (y1 ++ y2).length
            case rel => exact ⟨l2 ++ [([a0, a1, a2, a3, a4, a5, a6, a7], mc)], y1 ++ y2, rfl, HPM2.out, PlusIn.step (m := ([a0, a1, a2, a3, a4, a5, a6, a7], mc)) HI.out HRNG.out HG1.out HS.out HO.out HG2.out HF.out⟩
            case measure => simp
          | false =>
            have hbad : fits (sumL (l2 ++ [([a0, a1, a2, a3, a4, a5, a6, a7], mc)] ++ (y1 ++ y2) ++ if k = 0 then q else [])) = false := by
              refine fits_false _ _ ?_ (fits_false _ _ HPL.out (by rw [sumL_snoc]; exact hft))
              by_cases h0 : k = 0
              · rw [if_pos h0]; exact G2.out.gp
              · rw [if_neg h0]; exact fun m hm => by cases hm
            have hper : (l2 ++ [([a0, a1, a2, a3, a4, a5, a6, a7], mc)] ++ (y1 ++ y2) ++ if k = 0 then q else []).Perm (p ++ q) := by
              have h3 := HP.out _ HPM2.out
              by_cases h0 : k = 0
              · subst h0
                rw [if_neg (by omega), if_pos rfl] at h3
                rw [if_pos rfl]
                exact h3.append_right q
              · rw [if_neg (by omega), if_neg (by omega)] at h3
                rw [if_neg h0, List.append_nil]
                exact h3
            have hbel : Below w.heap.size w w2 := by
              have hr0 := HI.out.hr
              have hsz : w.heap.size + 2 ≤ wr.heap.size := by have := HI.out.rng.lt; omega
              have hs := HS.out
              refine ((HI.out.below.grown HG1.out (by omega) (fun k hk => ?_)).alloc (by omega) _).grown HG2.out (by simp; omega) (fun k hk => ?_)
              · injection hk with hk; omega
              · injection hk with hk; omega
            have HB := Aside0.mk hbad
            have HPE := Aside0.mk hper
            have HBE := Aside0.mk hbel
            clear hft hbad hper hbel
            go_wp2
            go_ret2
            exact ⟨l2 ++ [([a0, a1, a2, a3, a4, a5, a6, a7], mc)] ++ (y1 ++ y2) ++ (if k = 0 then q else []), none, HPE.out, by rw [HB.out]; rfl, (fun h => by rw [HB.out] at h; cases h), HBE.out⟩
    · obtain rfl : k = 2 := by omega
      have hper := HL.out.perm
      rw [if_neg (by omega), if_neg (by omega)] at hper
      have HPE := Aside0.mk hper
      clear hper
      go_wp2
      go_ret2
      exact ⟨l, some w.heap.size, HPE.out, by rw [HL.out.fit]; rfl, fun _ => ⟨w.heap.size, rfl, Nat.le_refl _, HL.out.own⟩, HL.out.below⟩
end Go.Proofs.Ythkclagcbjnckaa.Pa


namespace Go.Proofs.Ythkclagcbjnckaa.Pa
open Go.RowKit Go.Proofs.YthkclagcbjnckaaW.PrintWords Go.Proofs.YthkclagcbjnckaaW.PrintLast Go.Proofs.YthkclagcbjnckaaW.PrintMore
attribute [local go_sem] max2_int min2_int max_two min_two max_three min_three max_four min_four
set_option linter.unusedVariables false
set_option linter.unusedSimpArgs false
def bits_Mul64.f (a0 : Int) (a1 : Int) : Option (Int × Int) := some (IntKind.u64.wrap ((IntKind.u64.wrap ((IntKind.u64.wrap ((a0 / 4294967296) * (a1 / 4294967296))) + ((IntKind.u64.wrap ((IntKind.u64.wrap ((a0 / 4294967296) * (Go.bits .and .u64 a1 4294967295))) + ((IntKind.u64.wrap ((Go.bits .and .u64 a0 4294967295) * (Go.bits .and .u64 a1 4294967295))) / 4294967296))) / 4294967296))) + ((IntKind.u64.wrap ((Go.bits .and .u64 (IntKind.u64.wrap ((IntKind.u64.wrap ((a0 / 4294967296) * (Go.bits .and .u64 a1 4294967295))) + ((IntKind.u64.wrap ((Go.bits .and .u64 a0 4294967295) * (Go.bits .and .u64 a1 4294967295))) / 4294967296))) 4294967295) + (IntKind.u64.wrap ((Go.bits .and .u64 a0 4294967295) * (a1 / 4294967296))))) / 4294967296)), IntKind.u64.wrap (a0 * a1))
set_option maxHeartbeats 8000000 in
set_option maxRecDepth 100000 in
theorem bits_Mul64.calls (a0 : Int) (a1 : Int) (r1 : Int) (r2 : Int) (w : World) (h : bits_Mul64.f a0 a1 = some (r1, r2)) :
  Calls Try.prog 100 #[.int .u64 a0, .int .u64 a1] w fun e w' => e = .returned (.tuple #[.int .u64 r1, .int .u64 r2]) ∧ Drawn0 w w' := by
 have H : (some (IntKind.u64.wrap ((IntKind.u64.wrap ((IntKind.u64.wrap ((a0 / 4294967296) * (a1 / 4294967296))) + ((IntKind.u64.wrap ((IntKind.u64.wrap ((a0 / 4294967296) * (Go.bits .and .u64 a1 4294967295))) + ((IntKind.u64.wrap ((Go.bits .and .u64 a0 4294967295) * (Go.bits .and .u64 a1 4294967295))) / 4294967296))) / 4294967296))) + ((IntKind.u64.wrap ((Go.bits .and .u64 (IntKind.u64.wrap ((IntKind.u64.wrap ((a0 / 4294967296) * (Go.bits .and .u64 a1 4294967295))) + ((IntKind.u64.wrap ((Go.bits .and .u64 a0 4294967295) * (Go.bits .and .u64 a1 4294967295))) / 4294967296))) 4294967295) + (IntKind.u64.wrap ((Go.bits .and .u64 a0 4294967295) * (a1 / 4294967296))))) / 4294967296)), IntKind.u64.wrap (a0 * a1))) = some (r1, r2) := h
 clear h
 simp only [Option.some.injEq, Prod.mk.injEq] at H
 obtain ⟨rfl, rfl⟩ := H
 go_enter Try.func100, Try.ntmps100
 go_wp2
 go_ret2
 exact ⟨by first | rfl | (simp; done) | (simp [*]; done), by repeat (first | exact Drawn0.refl _ | apply Drawn0.step)⟩
end Go.Proofs.Ythkclagcbjnckaa.Pa


namespace Go.Proofs.Ythkclagcbjnckaa.Pa
open Go.RowKit Go.Proofs.YthkclagcbjnckaaW.PrintWords Go.Proofs.YthkclagcbjnckaaW.PrintLast Go.Proofs.YthkclagcbjnckaaW.PrintMore
attribute [local go_sem] max2_int min2_int max_two min_two max_three min_three max_four min_four
set_option linter.unusedVariables false
set_option linter.unusedSimpArgs false
def ring_times.f (a0 : Int) (a1 : Int) : Option (Int × Bool) := (bits_Mul64.f (IntKind.u64.wrap (a0)) (IntKind.u64.wrap (a1))).bind fun bt147 => (if bt147.1 = 0 then (some (wrap64 (bt147.2), decide (bt147.2 ≤ 1000000000000000))) else (some (wrap64 (bt147.2), false)))
set_option maxHeartbeats 8000000 in
set_option maxRecDepth 100000 in
theorem ring_times.calls (a0 : Int) (a1 : Int) (r1 : Int) (r2 : Bool) (w : World) (h : ring_times.f a0 a1 = some (r1, r2)) :
  Calls Try.prog 96 #[.int .i64 a0, .int .i64 a1] w fun e w' => e = .returned (.tuple #[.int .i64 r1, .bool r2]) ∧ Drawn0 w w' := by
 have H : ((bits_Mul64.f (IntKind.u64.wrap (a0)) (IntKind.u64.wrap (a1))).bind fun bt147 => (if bt147.1 = 0 then (some (wrap64 (bt147.2), decide (bt147.2 ≤ 1000000000000000))) else (some (wrap64 (bt147.2), false)))) = some (r1, r2) := h
 clear h
 replace H := Option.bind_eq_some_iff.mp H
 obtain ⟨⟨t147, t148⟩, A30, H⟩ := H
 replace H : (if t147 = 0 then (some (wrap64 (t148), decide (t148 ≤ 1000000000000000))) else (some (wrap64 (t148), false))) = some (r1, r2) := H
 have A3 := Aside0.mk A30
 clear A30
 by_cases c4 : t147 = 0
 ·rw [if_pos c4] at H
  have c4b0 : (t147 == 0) = true := beq_iff_eq.mpr c4
  have c4b1 : (t147 != 0) = false := bne_eq_false_iff_eq.mpr c4
  clear c4
  simp only [Option.some.injEq, Prod.mk.injEq] at H
  obtain ⟨rfl, rfl⟩ := H
  go_enter Try.func96, Try.ntmps96
  go_wp2_with (first | ((with_reducible refine gate_callee (f := 100) rfl ?_); refine goesL_ (some 13) rfl rfl Try.func100 (by kernel_rfl) rfl #[.int .u64 (IntKind.u64.wrap (a0)), .int .u64 (IntKind.u64.wrap (a1))] rfl (by (try simp only [List.map_toArray, List.map_cons, List.map_nil]); first | done | rfl | (simp only [List.length_drop, List.length_take]; rfl)) ?_; (with_reducible refine (bits_Mul64.calls (IntKind.u64.wrap (a0)) (IntKind.u64.wrap (a1)) t147 t148 _ A3.out).mono ?_); rintro e w' ⟨rfl, ⟨nd, rfl⟩⟩; refine ⟨_, rfl, ?_⟩))
  go_ret2
  exact ⟨by first | rfl | (simp; done) | (simp [*]; done), by repeat (first | exact Drawn0.refl _ | apply Drawn0.step)⟩
 ·rw [if_neg c4] at H
  have c4b0 : (t147 == 0) = false := beq_eq_false_iff_ne.mpr c4
  have c4b1 : (t147 != 0) = true := bne_iff_ne.mpr c4
  simp only [Option.some.injEq, Prod.mk.injEq] at H
  obtain ⟨rfl, rfl⟩ := H
  go_enter Try.func96, Try.ntmps96
  go_wp2_with (first | ((with_reducible refine gate_callee (f := 100) rfl ?_); refine goesL_ (some 13) rfl rfl Try.func100 (by kernel_rfl) rfl #[.int .u64 (IntKind.u64.wrap (a0)), .int .u64 (IntKind.u64.wrap (a1))] rfl (by (try simp only [List.map_toArray, List.map_cons, List.map_nil]); first | done | rfl | (simp only [List.length_drop, List.length_take]; rfl)) ?_; (with_reducible refine (bits_Mul64.calls (IntKind.u64.wrap (a0)) (IntKind.u64.wrap (a1)) t147 t148 _ A3.out).mono ?_); rintro e w' ⟨rfl, ⟨nd, rfl⟩⟩; refine ⟨_, rfl, ?_⟩))
  go_ret2
  exact ⟨by first | rfl | (simp; done) | (simp [*]; done), by repeat (first | exact Drawn0.refl _ | apply Drawn0.step)⟩
end Go.Proofs.Ythkclagcbjnckaa.Pa

namespace Go.Proofs.Ythkclagcbjnckaa.Pa
open Go.RowKit Go.Proofs.YthkclagcbjnckaaW.PrintWords Go.Proofs.YthkclagcbjnckaaW.PrintLast Go.Proofs.YthkclagcbjnckaaW.PrintMore
theorem wrap_u64 (n : Int) : IntKind.u64.wrap n = n % 18446744073709551616 := by
  simp [IntKind.wrap, IntKind.bits, IntKind.signed]
theorem and_mask (a : Nat) (ha : a < 18446744073709551616) : bits .and .u64 (a : Int) 4294967295 = ((a % 4294967296 : Nat) : Int) := by
  have h := bits_and_u64_nat a 4294967295 ha (by omega)
  have h2 : a &&& 4294967295 = a % 4294967296 := Nat.and_two_pow_sub_one_eq_mod a 32
  rw [h2] at h
  exact h
theorem mul64_f (x y : Nat) (hx : x < 18446744073709551616) (hy : y < 18446744073709551616) :
    bits_Mul64.f (x : Int) (y : Int) = some (((x * y / 18446744073709551616 : Nat) : Int), ((x * y % 18446744073709551616 : Nat) : Int)) := by
  obtain ⟨h1, h2, h3, h4⟩ := Lib.mul64_hi x y hx hy
  unfold bits_Mul64.f
  have hxy : x * y / 18446744073709551616 < 18446744073709551616 := by
    rw [Nat.div_lt_iff_lt_mul (by omega)]
    exact Nat.mul_lt_mul'' hx hy
  have ha := Lib.half_mul_le (a := x / 4294967296) (b := y / 4294967296) (by omega) (by omega)
  have hb := Lib.half_mul_le (a := x / 4294967296) (b := y % 4294967296) (by omega) (by omega)
  have hc := Lib.half_mul_le (a := x % 4294967296) (b := y / 4294967296) (by omega) (by omega)
  have hd := Lib.half_mul_le (a := x % 4294967296) (b := y % 4294967296) (by omega) (by omega)
  have w : ∀ n : Nat, n < 18446744073709551616 → IntKind.u64.wrap (n : Int) = n := fun n hn => by rw [wrap_u64]; omega
  rw [and_mask x hx, and_mask y hy]
  have e1 : (x : Int) / 4294967296 = ((x / 4294967296 : Nat) : Int) := by omega
  have e2 : (y : Int) / 4294967296 = ((y / 4294967296 : Nat) : Int) := by omega
  rw [e1, e2]
  simp only [← Int.natCast_mul]
  rw [← h4]
  generalize hA : (x / 4294967296) * (y / 4294967296) = a at *
  generalize hB : (x / 4294967296) * (y % 4294967296) = b at *
  generalize hC : (x % 4294967296) * (y / 4294967296) = c at *
  generalize hD : (x % 4294967296) * (y % 4294967296) = d at *
  rw [w a (by omega), w b (by omega), w c (by omega), w d (by omega)]
  have e3 : ((d : Int) / 4294967296) = ((d / 4294967296 : Nat) : Int) := by omega
  rw [e3]
  simp only [← Int.natCast_add]
  rw [w (b + d / 4294967296) (by omega), and_mask (b + d / 4294967296) (by omega)]
  have e4 : (((b + d / 4294967296 : Nat) : Int) / 4294967296) = (((b + d / 4294967296) / 4294967296 : Nat) : Int) := by omega
  rw [e4]
  simp only [← Int.natCast_add]
  rw [w _ h3]
  have e5 : (((((b + d / 4294967296) % 4294967296 + c : Nat)) : Int) / 4294967296) = ((((b + d / 4294967296) % 4294967296 + c) / 4294967296 : Nat) : Int) := by omega
  rw [e5, w (a + (b + d / 4294967296) / 4294967296) (by omega)]
  simp only [← Int.natCast_add]
  rw [w _ (by omega), wrap_u64]
  congr 2
theorem times_f (c d : Int) (hc0 : 0 ≤ c) (hc : c ≤ 1000000000000000) (hd0 : 0 ≤ d) (hd : d ≤ 1000000000000000) :
    ∃ n : Int, ring_times.f c d = some (n, decide (c * d ≤ 1000000000000000)) ∧ (c * d ≤ 1000000000000000 → n = c * d) := by
  obtain ⟨x, rfl⟩ := Int.eq_ofNat_of_zero_le hc0
  obtain ⟨y, rfl⟩ := Int.eq_ofNat_of_zero_le hd0
  have w : ∀ n : Nat, n < 18446744073709551616 → IntKind.u64.wrap (n : Int) = n := fun n hn => by rw [wrap_u64]; omega
  unfold ring_times.f
  rw [w x (by omega), w y (by omega), mul64_f x y (by omega) (by omega)]
  simp only [Option.bind_some]
  have e : ((x : Int) * (y : Int)) = ((x * y : Nat) : Int) := by simp
  rw [e]
  generalize x * y = n
  by_cases h : ((n / 18446744073709551616 : Nat) : Int) = 0
  · rw [if_pos h]
    refine ⟨_, by congr 2; rw [decide_eq_decide]; omega, fun h2 => ?_⟩
    unfold wrap64
    omega
  · rw [if_neg h]
    have : decide ((n : Int) ≤ 1000000000000000) = false := decide_eq_false (by omega)
    rw [this]
    exact ⟨_, rfl, fun h2 => by omega⟩
theorem times_c (c d : Int) (w : World) (hc0 : 0 ≤ c) (hc : c ≤ 1000000000000000) (hd0 : 0 ≤ d) (hd : d ≤ 1000000000000000) :
    Calls Try.prog 96 #[.int .i64 c, .int .i64 d] w fun e w' => ∃ n : Int, e = .returned (.tuple #[.int .i64 n, .bool (decide (c * d ≤ 1000000000000000))]) ∧ (c * d ≤ 1000000000000000 → n = c * d) ∧ Below w.heap.size w w' := by
  obtain ⟨n, h1, h2⟩ := times_f c d hc0 hc hd0 hd
  exact (ring_times.calls c d n _ w h1).mono fun e w' ⟨he, hd⟩ => ⟨n, he, h2, hd.below⟩
end Go.Proofs.Ythkclagcbjnckaa.Pa

namespace Go.Proofs.Ythkclagcbjnckaa.Pa
open Go.RowKit Go.Proofs.RawMap Go.Proofs.YthkclagcbjnckaaW.PrintWords Go.Proofs.YthkclagcbjnckaaW.PrintLast Go.Proofs.YthkclagcbjnckaaW.PrintMore
def mulX (a b : List Int) : List Int := List.zipWith (· + ·) a b
def mulM (x y : List Int × Int) : List Int × Int := (mulX x.1 y.1, x.2 * y.2)
def prodL (p q : Po) : Po := p.flatMap fun x => q.map (mulM x)
def okMM (x y : List Int × Int) : Bool := (mulX x.1 y.1).all (fun n => decide (n ≤ 60)) && decide (x.2 * y.2 ≤ 1000000000000000)
def okMul (p q : Po) : Bool := p.all fun x => q.all (okMM x)
structure ProdS (w w' : World) (b1 b2 : Nat) (p q l : Po) : Prop where
  own : PIs w' w.heap.size (sumL l)
  fit : fits (sumL l) = true
  m1 : PIs w' b1 p
  m2 : PIs w' b2 q
  below : Below w.heap.size w w'
  hb1 : b1 < w.heap.size
  hb2 : b2 < w.heap.size
theorem ProdS.grow {w w' w1 : World} {b1 b2 : Nat} {p q l : Po} {row : Option Nat} (h : ProdS w w' b1 b2 p q l) (hg : w'.grownBy w1 row) (hr : ∀ k, row = some k → w.heap.size < k) : ProdS w w1 b1 b2 p q l := by
  have h1 := h.hb1
  have h2 := h.hb2
  have hne : ∀ b, b ≤ w.heap.size → some b ≠ row := fun b hb e => by have := hr b e.symm; omega
  exact ⟨h.own.kept hg (hne _ (Nat.le_refl _)), h.fit, h.m1.kept hg (hne _ (by omega)), h.m2.kept hg (hne _ (by omega)), h.below.grown hg h.below.size (fun k hk => by have := hr k hk; omega), h1, h2⟩
theorem ProdS.put {w w' w1 : World} {b1 b2 : Nat} {p q l : Po} {m : List Int × Int} (h : ProdS w w' b1 b2 p q l) (ho : PIs w1 w.heap.size (addM m.1 m.2 (sumL l))) (hg : w'.grownBy w1 (some w.heap.size))
    (hf : fits (addM m.1 m.2 (sumL l)) = true) : ProdS w w1 b1 b2 p q (l ++ [m]) := by
  have h1 := h.hb1
  have h2 := h.hb2
  exact ⟨by rw [sumL_snoc]; exact ho, by rw [sumL_snoc]; exact hf, h.m1.kept hg (by simp; omega), h.m2.kept hg (by simp; omega), h.below.grown hg h.below.size (fun k hk => by injection hk with hk; omega), h1, h2⟩
theorem enc_inj {m m' : List Int × Int} (h : enc m = enc m') : m = m' := by
  obtain ⟨x, y⟩ := m; obtain ⟨x', y'⟩ := m'
  injection h with e1 e2
  injection e2 with _ e2
  exact Prod.ext (keyV_inj e1) e2
theorem mem_enc {m : List Int × Int} {p : Po} (h : enc m ∈ p.map enc) : m ∈ p := by
  obtain ⟨m', hm', e'⟩ := List.mem_map.1 h
  rw [← enc_inj e']; exact hm'
def arrI (xs : List Int) : Array Value := (xs.map (Value.int .i64)).toArray
theorem arrI_at {xs : List Int} {k : Nat} (h : k < xs.length) : (arrI xs)[k]? = some (.int .i64 (xs.getD k 0)) := by
  simp [arrI, List.getElem?_eq_getElem h, List.getD_eq_getElem?_getD]
theorem arrI_set (xs : List Int) (k : Nat) (v : Int) : (arrI xs).setIfInBounds k (.int .i64 v) = arrI (xs.set k v) := by
  simp [arrI, List.map_set]
theorem grown_set (w : World) (g k : Nat) (v : Value) : w.grownBy (w.setCell ⟨g, k, none⟩ v).drew (some g) :=
  ⟨rfl, rfl, rfl, by simp [World.setCell, World.drew], fun i _ hi => Below.heap_setCell w ⟨g, k, none⟩ v i (fun e => hi (by rw [e]))⟩
def part8 (a c : List Int) (k : Nat) : List Int := (mulX a c).take k ++ List.replicate (8 - k) 0
theorem part8_set {a c : List Int} (ha : a.length = 8) (hc : c.length = 8) {k : Nat} (hk : k < 8) : (part8 a c k).set k (a.getD k 0 + c.getD k 0) = part8 a c (k + 1) := by
  have hl : (mulX a c).length = 8 := by simp [mulX, ha, hc]
  have hl2 : ((mulX a c).take k).length = k := by rw [List.length_take]; omega
  have e : (mulX a c)[k]'(by omega) = a.getD k 0 + c.getD k 0 := by
    simp [mulX, List.getD_eq_getElem?_getD, List.getElem?_eq_getElem (show k < a.length by omega), List.getElem?_eq_getElem (show k < c.length by omega)]
  unfold part8
  rw [List.set_append_right _ _ (by omega), hl2, Nat.sub_self]
  obtain ⟨j, hj⟩ : ∃ j, 8 - k = j + 1 := ⟨8 - k - 1, by omega⟩
  rw [hj, List.replicate_succ, List.set_cons_zero, show 8 - (k + 1) = j by omega, List.take_succ_eq_append_getElem (by omega), e, List.append_assoc]
  rfl
theorem part8_len {a c : List Int} (ha : a.length = 8) (hc : c.length = 8) {k : Nat} (hk : k ≤ 8) : (part8 a c k).length = 8 := by
  simp [part8, mulX, ha, hc]; omega
theorem okMul_false {p q : Po} {x y : List Int × Int} (hx : x ∈ p) (hy : y ∈ q) (h : okMM x y = false) : okMul p q = false := by
  cases hk : okMul p q with
  | false => rfl
  | true =>
    unfold okMul at hk
    rw [List.all_eq_true] at hk
    have := hk x hx
    rw [List.all_eq_true] at this
    rw [this y hy] at h
    cases h
theorem okMM_exp {x y : List Int × Int} (hx : x.1.length = 8) (hy : y.1.length = 8) {k : Nat} (hk : k < 8) (h : 60 < x.1.getD k 0 + y.1.getD k 0) : okMM x y = false := by
  cases hq : okMM x y with
  | false => rfl
  | true =>
    unfold okMM at hq
    rw [Bool.and_eq_true, List.all_eq_true] at hq
    have := hq.1 (x.1.getD k 0 + y.1.getD k 0) (by
      have e : (mulX x.1 y.1)[k]'(by simp [mulX]; omega) = x.1.getD k 0 + y.1.getD k 0 := by
        simp [mulX, List.getD_eq_getElem?_getD, List.getElem?_eq_getElem (show k < x.1.length by omega), List.getElem?_eq_getElem (show k < y.1.length by omega)]
      rw [← e]
      exact List.getElem_mem _)
    simp only [decide_eq_true_eq] at this
    omega
theorem okMM_true {x y : List Int × Int} (hx : x.1.length = 8) (hy : y.1.length = 8) (h : ∀ k, k < 8 → x.1.getD k 0 + y.1.getD k 0 ≤ 60) : okMM x y = decide (x.2 * y.2 ≤ 1000000000000000) := by
  unfold okMM
  have : (mulX x.1 y.1).all (fun n => decide (n ≤ 60)) = true := by
    rw [List.all_eq_true]
    intro n hn
    obtain ⟨k, hk, e⟩ := List.getElem_of_mem hn
    have hk8 : k < 8 := by simp [mulX] at hk; omega
    have := h k hk8
    simp only [decide_eq_true_eq]
    rw [← e]
    simp [mulX, List.getD_eq_getElem?_getD, List.getElem?_eq_getElem (show k < x.1.length by omega), List.getElem?_eq_getElem (show k < y.1.length by omega)] at this ⊢
    exact this
  rw [this, Bool.true_and]
theorem okE_mulM {x y : List Int × Int} (hx : x.1.length = 8 ∧ ∀ n ∈ x.1, 0 ≤ n ∧ n ≤ 60) (hy : y.1.length = 8 ∧ ∀ n ∈ y.1, 0 ≤ n ∧ n ≤ 60) (h : okMM x y = true) : (mulM x y).1.length = 8 ∧ ∀ n ∈ (mulM x y).1, 0 ≤ n ∧ n ≤ 60 := by
  refine ⟨by simp [mulM, mulX, hx.1, hy.1], fun n hn => ?_⟩
  unfold okMM at h
  rw [Bool.and_eq_true, List.all_eq_true] at h
  have h1 := h.1 n hn
  simp only [decide_eq_true_eq] at h1
  refine ⟨?_, h1⟩
  obtain ⟨k, hk, e⟩ := List.getElem_of_mem hn
  simp only [mulM, mulX, List.getElem_zipWith] at e
  simp only [mulM, mulX, List.length_zipWith] at hk
  have h2 := hx.2 _ (List.getElem_mem (show k < x.1.length by omega))
  have h3 := hy.2 _ (List.getElem_mem (show k < y.1.length by omega))
  omega
theorem okE_prodL {p q : Po} (hp : okE p) (hq : okE q) (h : okMul p q = true) : okE (prodL p q) := by
  intro m hm
  obtain ⟨x, hx, hm⟩ := List.mem_flatMap.1 hm
  obtain ⟨y, hy, rfl⟩ := List.mem_map.1 hm
  unfold okMul at h
  rw [List.all_eq_true] at h
  have h1 := h x hx
  rw [List.all_eq_true] at h1
  exact okE_mulM (hp x hx) (hq y hy) (h1 y hy)
theorem okP_prodL {p q : Po} (hp : okP p) (hq : okP q) : okP (prodL p q) := by
  intro m hm
  obtain ⟨x, hx, hm⟩ := List.mem_flatMap.1 hm
  obtain ⟨y, hy, rfl⟩ := List.mem_map.1 hm
  have h1 := hp x hx
  have h2 := hq y hy
  have := Int.mul_le_mul h1 h2 (by omega) (by omega)
  simpa [mulM] using this
theorem row_prodL (x : List Int × Int) (q : Po) : prodL [x] q = q.map (mulM x) := by simp [prodL]
theorem row_okMul (x : List Int × Int) (q : Po) : okMul [x] q = q.all (okMM x) := by simp [okMul]
set_option maxRecDepth 100000 in
set_option maxHeartbeats 4000000 in
theorem product_c (b1 b2 : Nat) (p q : Po) (w : World) (h1 : PIs w b1 p) (h2 : PIs w b2 q) (g1 : Good p) (g2 : Good q) :
    Calls Try.prog 75 #[.map (some b1), .map (some b2)] w fun e w' => ∃ (l : Po) (r : Option Nat), l.Perm (prodL p q) ∧ e = .returned (.tuple #[.map r, .bool (okMul p q && fits (sumL l))]) ∧
      ((okMul p q && fits (sumL l)) = true → ∃ b3, r = some b3 ∧ w.heap.size ≤ b3 ∧ PIs w' b3 (sumL l)) ∧ Below w.heap.size w w' := by
  have hmm := @run_makeMap Try.prog
  have H1 := Aside0.mk h1
  have H2 := Aside0.mk h2
  have G1 := Aside0.mk g1
  have G2 := Aside0.mk g2
  have ga : ∀ (W : World) (o : Obj), W.grownBy (W.alloc o) none := fun W o => World.grownBy_alloc W o none
  have hS0 : ProdS w (w.alloc (.map #[] 0)) b1 b2 p q [] := ⟨MapIs.made w VK, rfl, h1.kept (ga _ _) (by simp), h2.kept (ga _ _) (by simp), below_alloc (Below.refl _ _) _, h1.lt, h2.lt⟩
  obtain ⟨w0, hrun, hra, hgr, hsz⟩ := MapIs.range (P := Try.prog) hS0.m1 Try.underlying63
  have hS1 := hS0.grow hgr (fun k hk => by cases hk)
  rw [World.size_alloc] at hrun hra
  have HS := Aside0.mk hS1
  have HA := Aside0.mk hra
  have GA := Aside0.mk ga
  clear h1 h2 g1 g2 hS0 hra hgr hsz hS1 ga
  go_enter Try.func75, Try.ntmps75
  go_wp2
  go_loopg [] p.length (fun kq w' => ∃ (l done left : Po), left.length = kq ∧ (done ++ left).Perm p ∧ l.Perm (prodL done q) ∧ okMul done q = true ∧ ProdS w w' b1 b2 p q l ∧ Ranges w' VK b1 (w.heap.size + 1) (p.map enc) (left.map enc))
  case atStart => exact ⟨[], [], p, rfl, List.Perm.refl _, List.Perm.refl _, rfl, HS.out, HA.out⟩
  case round =>
    obtain ⟨l, done, left, rfl, hpm, hlp, hok, HI, HR⟩ := hrel
    have HPM := Aside0.mk hpm
    have HLP := Aside0.mk hlp
    have HOK := Aside0.mk hok
    have HI := Aside0.mk HI
    have HR := Aside0.mk HR
    clear hpm hlp hok
    obtain ⟨wo, rfl⟩ : ∃ wo : World, wo = wr := ⟨_, rfl⟩
    rcases HR.out.next (P := Try.prog) 0 with ⟨h0, hrun2⟩ | ⟨x1, key, v, x2, w1, hle, hmem, hVk, hrun2, hrng, hg1, hs1, hen⟩
    · have hl0 : left = [] := by cases left with | nil => rfl | cons a r => cases h0
      subst hl0
      clear h0
      go_wp2
      go_ret2
      have hpq : l.Perm (prodL p q) ∧ okMul p q = true := by
        have hp := HPM.out
        rw [List.append_nil] at hp
        refine ⟨HLP.out.trans (List.Perm.flatMap_right _ hp), ?_⟩
        rw [← HOK.out]
        exact (List.Perm.all_eq hp).symm
      exact ⟨l, some w.heap.size, hpq.1, by rw [hpq.2, HI.out.fit]; rfl, (fun _ => ⟨_, rfl, Nat.le_refl _, HI.out.own⟩), HI.out.below⟩
    · obtain ⟨y1, m, y2, rfl, rfl, he, rfl⟩ := split_map hle
      have hmem0 : m ∈ p := mem_enc (by rw [he]; exact hmem)
      obtain ⟨mx, mc⟩ := m
      obtain ⟨a0, a1, a2, a3, a4, a5, a6, a7, rfl⟩ : ∃ a0 a1 a2 a3 a4 a5 a6 a7, mx = [a0, a1, a2, a3, a4, a5, a6, a7] := eight (G1.out.ge _ hmem0).1
      injection he with hk1 hv1
      subst hk1
      subst hv1
      have e0 : keyV [a0, a1, a2, a3, a4, a5, a6, a7] = .agg #[.int .i64 a0, .int .i64 a1, .int .i64 a2, .int .i64 a3, .int .i64 a4, .int .i64 a5, .int .i64 a6, .int .i64 a7] := rfl
      simp only [e0] at hrun2 hen
      have PS1 := HI.out.grow hg1 (fun k hk => by injection hk with hk; omega)
      have hlt1 : w.heap.size + 1 < w1.heap.size := by have := HR.out.lt; omega
      have PS2 := PS1.grow (GA.out w1 (.cells #[.int .i64 a0, .int .i64 a1, .int .i64 a2, .int .i64 a3, .int .i64 a4, .int .i64 a5, .int .i64 a6, .int .i64 a7] 76)) (fun k hk => by cases hk)
      obtain ⟨w3, hrun3, hra3, hgr3, hsz3⟩ := MapIs.range (P := Try.prog) PS2.m2 Try.underlying63
      have PS3 := PS2.grow hgr3 (fun k hk => by cases hk)
      rw [World.size_alloc] at hrun3 hra3 hsz3
      have hrx := (hrng.kept (GA.out w1 (.cells #[.int .i64 a0, .int .i64 a1, .int .i64 a2, .int .i64 a3, .int .i64 a4, .int .i64 a5, .int .i64 a6, .int .i64 a7] 76)) (by simp) (by simp)).kept hgr3 (by simp) (by simp)
      have hbx : w3.heap[w1.heap.size]? = some (.cells #[.int .i64 a0, .int .i64 a1, .int .i64 a2, .int .i64 a3, .int .i64 a4, .int .i64 a5, .int .i64 a6, .int .i64 a7] 76 (0, 0)) := by
        rw [hgr3.block _ (by simp) (by simp)]; exact heap_alloc_new _ _
      have hE := G1.out.ge _ hmem0
      have hP := G1.out.gp _ hmem0
      have hC := G1.out.gc _ hmem0
      simp only at hE hP hC
      have HE := Aside0.mk hE
      have HP := Aside0.mk hP
      have HC := Aside0.mk hC
      have P3 := Aside0.mk PS3
      have RA := Aside0.mk hra3
      have RX := Aside0.mk hrx
      have BX := Aside0.mk hbx
      have L1 := Aside0.mk hlt1
      have M1 := Aside0.mk hmem0
      clear hle hmem hVk hrng hg1 e0 hmem0 PS1 PS2 PS3 hra3 hgr3 hsz3 hrx hbx hE hP hC hlt1 hs1
      go_wp2
      go_loopg [] q.length (fun kq w' => ∃ (l2 done2 left2 : Po), left2.length = kq ∧ (done2 ++ left2).Perm q ∧ l2.Perm (prodL done q ++ done2.map (mulM ([a0, a1, a2, a3, a4, a5, a6, a7], mc))) ∧ done2.all (okMM ([a0, a1, a2, a3, a4, a5, a6, a7], mc)) = true ∧ ProdS w w' b1 b2 p q l2 ∧
        Ranges w' VK b1 (w.heap.size + 1) (p.map enc) ((y1 ++ y2).map enc) ∧ Ranges w' VK b2 (w1.heap.size + 1) (q.map enc) (left2.map enc) ∧ w'.heap[w1.heap.size]? = some (.cells #[.int .i64 a0, .int .i64 a1, .int .i64 a2, .int .i64 a3, .int .i64 a4, .int .i64 a5, .int .i64 a6, .int .i64 a7] 76 (0, 0)))
      case atStart => exact ⟨l, [], q, rfl, List.Perm.refl _, (by simpa using HLP.out), rfl, P3.out, (by rw [List.map_append]; exact RX.out), RA.out, BX.out⟩
      case round =>
        obtain ⟨l2, done2, left2, rfl, hpm, hlp, hok, HI2, HR2, HR3, hbx⟩ := hrel
        have HPM2 := Aside0.mk hpm
        have HLP2 := Aside0.mk hlp
        have HOK2 := Aside0.mk hok
        have HI2 := Aside0.mk HI2
        have HR2 := Aside0.mk HR2
        have HR3 := Aside0.mk HR3
        have BX2 := Aside0.mk hbx
        clear hpm hlp hok hbx P3 RA RX BX
        obtain ⟨wi, rfl⟩ : ∃ wi : World, wi = wr := ⟨_, rfl⟩
        rcases HR3.out.next (P := Try.prog) 0 with ⟨h0, hrun4⟩ | ⟨x1, key, v, x2, w4, hle, hmem, hVk, hrun4, hrng, hg4, hs4, hen4⟩
        · have hl0 : left2 = [] := by cases left2 with | nil => rfl | cons a r => cases h0
          subst hl0
          clear h0
          go_wp2
          go_roundg (y1 ++ y2).length
          case rel =>
            have hq := HPM2.out
            rw [List.append_nil] at hq
            refine ⟨l2, done ++ [([a0, a1, a2, a3, a4, a5, a6, a7], mc)], y1 ++ y2, rfl, ?_, ?_, ?_, HI2.out, HR2.out⟩
            · refine List.Perm.trans ?_ HPM.out
              rw [List.append_assoc]
              exact List.Perm.append_left _ (List.perm_middle (l₁ := y1) (l₂ := y2)).symm
            · refine HLP2.out.trans ?_
              have : prodL (done ++ [([a0, a1, a2, a3, a4, a5, a6, a7], mc)]) q = prodL done q ++ q.map (mulM ([a0, a1, a2, a3, a4, a5, a6, a7], mc)) := by simp [prodL]
              rw [this]
              exact List.Perm.append_left _ (hq.map _)
            · have h1 := HOK2.out
              rw [List.Perm.all_eq hq] at h1
              have h2 := HOK.out
              unfold okMul at h2 ⊢
              rw [List.all_append, h2]
              simp [h1]
          case measure => simp
        · obtain ⟨z1, m, z2, rfl, rfl, he, rfl⟩ := split_map hle
          have hmem0 : m ∈ q := mem_enc (by rw [he]; exact hmem)
          obtain ⟨my, md⟩ := m
          obtain ⟨c0, c1, c2, c3, c4, c5, c6, c7, rfl⟩ : ∃ c0 c1 c2 c3 c4 c5 c6 c7, my = [c0, c1, c2, c3, c4, c5, c6, c7] := eight (G2.out.ge _ hmem0).1
          injection he with hk1 hv1
          subst hk1
          subst hv1
          have e0 : keyV [c0, c1, c2, c3, c4, c5, c6, c7] = .agg #[.int .i64 c0, .int .i64 c1, .int .i64 c2, .int .i64 c3, .int .i64 c4, .int .i64 c5, .int .i64 c6, .int .i64 c7] := rfl
          simp only [e0] at hrun4 hen4
          have hE2 := G2.out.ge _ hmem0
          have hP2 := G2.out.gp _ hmem0
          have hC2 := G2.out.gc _ hmem0
          simp only at hE2 hP2 hC2
          have QS1 := HI2.out.grow hg4 (fun k hk => by injection hk with hk; have := L1.out; omega)
          have hltq : w1.heap.size + 1 < w4.heap.size := by have := HR3.out.lt; omega
          have QS3 := (QS1.grow (GA.out w4 (.cells #[.int .i64 c0, .int .i64 c1, .int .i64 c2, .int .i64 c3, .int .i64 c4, .int .i64 c5, .int .i64 c6, .int .i64 c7] 76)) (fun k hk => by cases hk)).grow (GA.out _ (.cells (arrI (List.replicate 8 0)) 76)) (fun k hk => by cases hk)
          have l1 := L1.out
          have lb1 := HI2.out.hb1
          have hr1 := ((HR2.out.kept hg4 (by simp; omega) (by simp; omega)).kept (GA.out w4 (.cells #[.int .i64 c0, .int .i64 c1, .int .i64 c2, .int .i64 c3, .int .i64 c4, .int .i64 c5, .int .i64 c6, .int .i64 c7] 76)) (by simp) (by simp)).kept (GA.out _ (.cells (arrI (List.replicate 8 0)) 76)) (by simp) (by simp)
          have hr3 := (hrng.kept (GA.out w4 (.cells #[.int .i64 c0, .int .i64 c1, .int .i64 c2, .int .i64 c3, .int .i64 c4, .int .i64 c5, .int .i64 c6, .int .i64 c7] 76)) (by simp) (by simp)).kept (GA.out _ (.cells (arrI (List.replicate 8 0)) 76)) (by simp) (by simp)
          have hx0 : ((w4.alloc (.cells #[.int .i64 c0, .int .i64 c1, .int .i64 c2, .int .i64 c3, .int .i64 c4, .int .i64 c5, .int .i64 c6, .int .i64 c7] 76)).alloc (.cells (arrI (List.replicate 8 0)) 76)).heap[w1.heap.size]? = some (.cells #[.int .i64 a0, .int .i64 a1, .int .i64 a2, .int .i64 a3, .int .i64 a4, .int .i64 a5, .int .i64 a6, .int .i64 a7] 76 (0, 0)) := by
            rw [Below.heap_alloc _ _ _ (by simp; omega), Below.heap_alloc _ _ _ (by omega), hg4.block _ (by omega) (by simp)]
            exact BX2.out
          have hy0 : ((w4.alloc (.cells #[.int .i64 c0, .int .i64 c1, .int .i64 c2, .int .i64 c3, .int .i64 c4, .int .i64 c5, .int .i64 c6, .int .i64 c7] 76)).alloc (.cells (arrI (List.replicate 8 0)) 76)).heap[w4.heap.size]? = some (.cells #[.int .i64 c0, .int .i64 c1, .int .i64 c2, .int .i64 c3, .int .i64 c4, .int .i64 c5, .int .i64 c6, .int .i64 c7] 76 (0, 0)) := by
            rw [Below.heap_alloc _ _ _ (by simp)]; exact heap_alloc_new _ _
          have hz0 : ((w4.alloc (.cells #[.int .i64 c0, .int .i64 c1, .int .i64 c2, .int .i64 c3, .int .i64 c4, .int .i64 c5, .int .i64 c6, .int .i64 c7] 76)).alloc (.cells (arrI (List.replicate 8 0)) 76)).heap[w4.heap.size + 1]? = some (.cells (arrI (List.replicate 8 0)) 76 (0, 0)) := by
            have := heap_alloc_new (w4.alloc (.cells #[.int .i64 c0, .int .i64 c1, .int .i64 c2, .int .i64 c3, .int .i64 c4, .int .i64 c5, .int .i64 c6, .int .i64 c7] 76)) (.cells (arrI (List.replicate 8 0)) 76)
            rwa [World.size_alloc] at this
          obtain ⟨W5, hW5⟩ : ∃ W5, W5 = (w4.alloc (.cells #[.int .i64 c0, .int .i64 c1, .int .i64 c2, .int .i64 c3, .int .i64 c4, .int .i64 c5, .int .i64 c6, .int .i64 c7] 76)).alloc (.cells (arrI (List.replicate 8 0)) 76) := ⟨_, rfl⟩
          have hs5 : w4.heap.size + 2 = W5.heap.size := by rw [hW5]; simp
          rw [← hW5] at QS3 hr1 hr3 hx0 hy0 hz0
          have HW := Aside0.mk hW5
          have S5 := Aside0.mk hs5
          have Q3 := Aside0.mk QS3
          have R1 := Aside0.mk hr1
          have R3 := Aside0.mk hr3
          have X0 := Aside0.mk hx0
          have Y0 := Aside0.mk hy0
          have Z0 := Aside0.mk hz0
          have E2 := Aside0.mk hE2
          have P2 := Aside0.mk hP2
          have C2 := Aside0.mk hC2
          have L2 := Aside0.mk hltq
          have M0 := Aside0.mk hmem0
          clear hle hmem hVk hrng hg4 e0 hmem0 hs4 QS1 QS3 hr1 hr3 hx0 hy0 hz0 hE2 hP2 hC2 hltq hW5 hs5 l1 lb1
          go_wp2
          go_loopw [30] (fun v30 w' => ∃ k : Nat, v30 = .int .i64 k ∧ k ≤ 8 ∧ W5.grownBy w' (some (w4.heap.size + 1)) ∧ w'.heap[w4.heap.size + 1]? = some (.cells (arrI (part8 [a0, a1, a2, a3, a4, a5, a6, a7] [c0, c1, c2, c3, c4, c5, c6, c7] k)) 76 (0, 0)) ∧ ∀ j, j < k → [a0, a1, a2, a3, a4, a5, a6, a7].getD j 0 + [c0, c1, c2, c3, c4, c5, c6, c7].getD j 0 ≤ 60) (fun v30 _ => 8 - (intOf v30).toNat)
          case atStart => exact ⟨0, rfl, by omega, (by rw [HW.out]; exact World.grownBy.refl _ _), (by have := Z0.out; rw [HW.out] at this; exact this), fun j hj => absurd hj (Nat.not_lt_zero _)⟩
          case round =>
            obtain ⟨k, rfl, hk8, hgk, hzk, hle60⟩ := hrel
            have hx1 := (hgk.block w1.heap.size (by have := S5.out; have := L2.out; omega) (by have := L2.out; simp; omega)).trans X0.out
            have hy1 := (hgk.block w4.heap.size (by have := S5.out; omega) (by simp)).trans Y0.out
            by_cases hlt : k < 8
            · have hxk : wr.cell? ⟨w1.heap.size, k, none⟩ = some (.int .i64 ([a0, a1, a2, a3, a4, a5, a6, a7].getD k 0)) := (blk_cell hx1 k).trans (arrI_at (xs := [a0, a1, a2, a3, a4, a5, a6, a7]) (by simpa using hlt))
              have hyk : wr.cell? ⟨w4.heap.size, k, none⟩ = some (.int .i64 ([c0, c1, c2, c3, c4, c5, c6, c7].getD k 0)) := (blk_cell hy1 k).trans (arrI_at (xs := [c0, c1, c2, c3, c4, c5, c6, c7]) (by simpa using hlt))
              have hzc : wr.cell? ⟨w4.heap.size + 1, k, none⟩ = some (.int .i64 ((part8 [a0, a1, a2, a3, a4, a5, a6, a7] [c0, c1, c2, c3, c4, c5, c6, c7] k).getD k 0)) := (blk_cell hzk k).trans (arrI_at (by rw [part8_len rfl rfl (by omega)]; exact hlt))
              have hfz : wr.frozen? ⟨w4.heap.size + 1, k, none⟩ = false := blk_frozen hzk k
              obtain ⟨ak, hak⟩ : ∃ ak, ak = [a0, a1, a2, a3, a4, a5, a6, a7].getD k 0 := ⟨_, rfl⟩
              obtain ⟨ck, hck⟩ : ∃ ck, ck = [c0, c1, c2, c3, c4, c5, c6, c7].getD k 0 := ⟨_, rfl⟩
              have ba := HE.out.2 ak (by rw [hak, List.getD_eq_getElem?_getD, List.getElem?_eq_getElem (by simpa using hlt)]; exact List.getElem_mem _)
              have bc := E2.out.2 ck (by rw [hck, List.getD_eq_getElem?_getD, List.getElem?_eq_getElem (by simpa using hlt)]; exact List.getElem_mem _)
              rw [← hak] at hxk
              rw [← hck] at hyk
              have ba1 := ba.1
              have ba2 := ba.2
              have bc1 := bc.1
              have bc2 := bc.2
              have hset := part8_set (a := [a0, a1, a2, a3, a4, a5, a6, a7]) (c := [c0, c1, c2, c3, c4, c5, c6, c7]) rfl rfl hlt
              rw [← hak, ← hck] at hset
              obtain ⟨zk, hzk2⟩ : ∃ zk, zk = (part8 [a0, a1, a2, a3, a4, a5, a6, a7] [c0, c1, c2, c3, c4, c5, c6, c7] k).getD k 0 := ⟨_, rfl⟩
              rw [← hzk2] at hzc
              have HAK := Aside0.mk hak
              have HCK := Aside0.mk hck
              have HSET := Aside0.mk hset
              have GK := Aside0.mk hgk
              have ZK := Aside0.mk hzk
              have LE := Aside0.mk hle60
              have bk8 : decide ((k : Int) < 8) = true := decide_eq_true (by omega)
              clear hak hck hset hgk hzk hle60 hx1 hy1 ba bc hzk2
              by_cases h60 : ak + ck ≤ 60
              · have b60 : decide (60 < ak + ck) = false := decide_eq_false (by omega)
                go_wp2
                go_big_region
                go_wp2
                go_roundw
                case rel =>
                  refine ⟨k + 1, by go_num, by omega, World.grownBy.trans GK.out (grown_set wr _ _ _), ?_, fun j hj => ?_⟩
                  · have := blk_set ZK.out k (.int .i64 (ak + ck))
                    rw [arrI_set, HSET.out] at this
                    exact this
                  · by_cases hjk : j = k
                    · rw [hjk, ← HAK.out, ← HCK.out]; exact h60
                    · exact LE.out j (by omega)
                case measure => simp [intOf]; omega
              · have b60 : decide (60 < ak + ck) = true := decide_eq_true (by omega)
                have hbad : okMul p q = false := by
                  refine okMul_false (x := ([a0, a1, a2, a3, a4, a5, a6, a7], mc)) (y := ([c0, c1, c2, c3, c4, c5, c6, c7], md)) (M1.out) M0.out (okMM_exp (k := k) rfl rfl hlt ?_)
                  rw [← HAK.out, ← HCK.out]; omega
                have HBAD := Aside0.mk hbad
                have hbel : ∀ v, Below w.heap.size w (wr.setCell ⟨w4.heap.size + 1, k, none⟩ v).drew := fun v => by
                  have h1 := (Q3.out.below.grown GK.out Q3.out.below.size (fun j hj => by injection hj with hj; have := L2.out; have := L1.out; omega))
                  exact h1.grown (grown_set wr _ _ v) h1.size (fun j hj => by injection hj with hj; have := L2.out; have := L1.out; omega)
                have HBEL := Aside0.mk hbel
                clear hbad hbel
                go_wp2
                go_big_region
                go_wp2
                go_ret2
                exact ⟨prodL p q, none, List.Perm.refl _, by rw [HBAD.out]; rfl, (fun h => by rw [HBAD.out] at h; cases h), HBEL.out _⟩
            · obtain rfl : k = 8 := by omega
              have hz8 : wr.heap[w4.heap.size + 1]? = some (.cells (arrI (mulX [a0, a1, a2, a3, a4, a5, a6, a7] [c0, c1, c2, c3, c4, c5, c6, c7])) 76 (0, 0)) := by
                have e : part8 [a0, a1, a2, a3, a4, a5, a6, a7] [c0, c1, c2, c3, c4, c5, c6, c7] 8 = mulX [a0, a1, a2, a3, a4, a5, a6, a7] [c0, c1, c2, c3, c4, c5, c6, c7] := by simp [part8, mulX]
                rw [← e]; exact hzk
              have cz0 : wr.cell? ⟨w4.heap.size + 1, 0, none⟩ = some (.int .i64 (a0 + c0)) := (blk_cell hz8 0).trans rfl
              have cz1 : wr.cell? ⟨w4.heap.size + 1, 1, none⟩ = some (.int .i64 (a1 + c1)) := (blk_cell hz8 1).trans rfl
              have cz2 : wr.cell? ⟨w4.heap.size + 1, 2, none⟩ = some (.int .i64 (a2 + c2)) := (blk_cell hz8 2).trans rfl
              have cz3 : wr.cell? ⟨w4.heap.size + 1, 3, none⟩ = some (.int .i64 (a3 + c3)) := (blk_cell hz8 3).trans rfl
              have cz4 : wr.cell? ⟨w4.heap.size + 1, 4, none⟩ = some (.int .i64 (a4 + c4)) := (blk_cell hz8 4).trans rfl
              have cz5 : wr.cell? ⟨w4.heap.size + 1, 5, none⟩ = some (.int .i64 (a5 + c5)) := (blk_cell hz8 5).trans rfl
              have cz6 : wr.cell? ⟨w4.heap.size + 1, 6, none⟩ = some (.int .i64 (a6 + c6)) := (blk_cell hz8 6).trans rfl
              have cz7 : wr.cell? ⟨w4.heap.size + 1, 7, none⟩ = some (.int .i64 (a7 + c7)) := (blk_cell hz8 7).trans rfl
              have hrow : ∀ j, some (w4.heap.size + 1) = some j → w.heap.size < j := fun j hj => by injection hj with hj; have := L2.out; have := L1.out; omega
              have T3 := Aside0.mk (Q3.out.grow hgk hrow)
              have T1 := Aside0.mk (R1.out.kept hgk (by have := Q3.out.hb1; have := L2.out; have := L1.out; simp; omega) (by have := L2.out; have := L1.out; simp; omega))
              have TR := Aside0.mk (R3.out.kept hgk (by have := Q3.out.hb2; have := L2.out; have := L1.out; simp; omega) (by have := L2.out; have := L1.out; simp; omega))
              have TX := Aside0.mk hx1
              have LE := Aside0.mk hle60
              clear hx1 hy1 hle60 hgk hzk hrow
              have Z8 := Aside0.mk hz8
              clear hz8 cz0 cz1 cz2 cz3 cz4 cz5 cz6 cz7
              go_wp2_with fail
              refine (times_c mc md _ (by have := HP.out; omega) HC.out (by have := P2.out; omega) C2.out).mono ?_
              rintro e w6 ⟨n, rfl, hn, hb6⟩
              have hg6 : ∀ row, wr.grownBy w6 row := fun row => grown_of_below hb6 row
              have hex : okMM ([a0, a1, a2, a3, a4, a5, a6, a7], mc) ([c0, c1, c2, c3, c4, c5, c6, c7], md) = decide (mc * md ≤ 1000000000000000) := okMM_true rfl rfl (fun k hk => LE.out k hk)
              have T3 := Aside0.mk (T3.out.grow (hg6 none) (fun k hk => by cases hk))
              have T1 := Aside0.mk (T1.out.kept (hg6 none) (by simp) (by simp))
              have TR := Aside0.mk (TR.out.kept (hg6 none) (by simp) (by simp))
              have TX := Aside0.mk (((hg6 none).block w1.heap.size (blk_lt TX.out) (by simp)).trans TX.out)
              have hz6 := ((hg6 none).block (w4.heap.size + 1) (blk_lt Z8.out) (by simp)).trans Z8.out
              by_cases hmd : mc * md ≤ 1000000000000000
              · have bmd : decide (mc * md ≤ 1000000000000000) = true := decide_eq_true hmd
                have hn := hn hmd
                subst hn
                have cz0 : w6.cell? ⟨w4.heap.size + 1, 0, none⟩ = some (.int .i64 (a0 + c0)) := (blk_cell hz6 0).trans rfl
                have cz1 : w6.cell? ⟨w4.heap.size + 1, 1, none⟩ = some (.int .i64 (a1 + c1)) := (blk_cell hz6 1).trans rfl
                have cz2 : w6.cell? ⟨w4.heap.size + 1, 2, none⟩ = some (.int .i64 (a2 + c2)) := (blk_cell hz6 2).trans rfl
                have cz3 : w6.cell? ⟨w4.heap.size + 1, 3, none⟩ = some (.int .i64 (a3 + c3)) := (blk_cell hz6 3).trans rfl
                have cz4 : w6.cell? ⟨w4.heap.size + 1, 4, none⟩ = some (.int .i64 (a4 + c4)) := (blk_cell hz6 4).trans rfl
                have cz5 : w6.cell? ⟨w4.heap.size + 1, 5, none⟩ = some (.int .i64 (a5 + c5)) := (blk_cell hz6 5).trans rfl
                have cz6 : w6.cell? ⟨w4.heap.size + 1, 6, none⟩ = some (.int .i64 (a6 + c6)) := (blk_cell hz6 6).trans rfl
                have cz7 : w6.cell? ⟨w4.heap.size + 1, 7, none⟩ = some (.int .i64 (a7 + c7)) := (blk_cell hz6 7).trans rfl
                have hxe : ∀ x ∈ [a0 + c0, a1 + c1, a2 + c2, a3 + c3, a4 + c4, a5 + c5, a6 + c6, a7 + c7], 0 ≤ x ∧ x ≤ 60 := by
                  have hle := LE.out
                  have h0 := hle 0 (by omega); have h1 := hle 1 (by omega); have h2 := hle 2 (by omega); have h3 := hle 3 (by omega)
                  have h4 := hle 4 (by omega); have h5 := hle 5 (by omega); have h6 := hle 6 (by omega); have h7 := hle 7 (by omega)
                  simp only [List.getD_cons_zero, List.getD_cons_succ] at h0 h1 h2 h3 h4 h5 h6 h7
                  have hA := HE.out.2
                  have hC := E2.out.2
                  simp only [List.mem_cons, List.not_mem_nil, or_false, forall_eq_or_imp, forall_eq] at hA hC ⊢
                  omega
                have hpos : 1 ≤ mc * md := by
                  have h1 := HP.out
                  have h2 := P2.out
                  have := Int.mul_le_mul h1 h2 (by omega) (by omega)
                  simpa using this
                have hE2l : okE l2 ∧ okP l2 := by
                  have sub : ∀ m, m ∈ done ∨ m = ([a0, a1, a2, a3, a4, a5, a6, a7], mc) → m ∈ p := fun m hm => by
                    rcases hm with hm | rfl
                    · exact HPM.out.mem_iff.1 (by simp [hm])
                    · exact M1.out
                  have sub2 : ∀ m, m ∈ done2 → m ∈ q := fun m hm => HPM2.out.mem_iff.1 (by simp [hm])
                  have e1 : okE done := fun m hm => G1.out.ge m (sub m (.inl hm))
                  have e2 : okP done := fun m hm => G1.out.gp m (sub m (.inl hm))
                  have e3 : okE [([a0, a1, a2, a3, a4, a5, a6, a7], mc)] := fun m hm => G1.out.ge m (sub m (.inr (by simpa using hm)))
                  have e4 : okP [([a0, a1, a2, a3, a4, a5, a6, a7], mc)] := fun m hm => G1.out.gp m (sub m (.inr (by simpa using hm)))
                  have e5 : okE done2 := fun m hm => G2.out.ge m (sub2 m hm)
                  have e6 : okP done2 := fun m hm => G2.out.gp m (sub2 m hm)
                  have f1 := okE_prodL e1 G2.out.ge HOK.out
                  have f2 := okP_prodL e2 G2.out.gp
                  have f3 := okE_prodL e3 e5 (by rw [row_okMul]; exact HOK2.out)
                  have f4 := okP_prodL e4 e6
                  rw [row_prodL] at f3 f4
                  exact ⟨okE_perm HLP2.out.symm (fun m hm => (List.mem_append.1 hm).elim (f1 m) (f3 m)), okP_perm HLP2.out.symm (fun m hm => (List.mem_append.1 hm).elim (f2 m) (f4 m))⟩
                have hadd := add_c w.heap.size (sumL l2) [a0 + c0, a1 + c1, a2 + c2, a3 + c3, a4 + c4, a5 + c5, a6 + c6, a7 + c7] (mc * md) w6 rfl hxe T3.out.own (fits_iff.1 T3.out.fit).1 (okP_sumL l2 hE2l.2) (by omega) hmd
                rw [fits_addM (fits_iff.1 T3.out.fit).1] at hadd
                have HADD := Aside0.mk hadd
                have HEX := Aside0.mk (hex.trans bmd)
                have HZ6 := Aside0.mk hz6
                clear hn hadd hE2l hpos hxe hex hz6 hg6 hb6 hmd
                go_wp2_with fail
                refine HADD.out.mono ?_
                rintro e w7 ⟨rfl, hown, hgr7⟩
                have HO := Aside0.mk hown
                have HG7 := Aside0.mk hgr7
                clear hown hgr7
                cases hft : fits (addM [a0 + c0, a1 + c1, a2 + c2, a3 + c3, a4 + c4, a5 + c5, a6 + c6, a7 + c7] (mc * md) (sumL l2)) with
                | true =>
                  have HF := Aside0.mk hft
                  clear hft
                  go_wp2
                  go_roundg (z1 ++ z2).length
                  case rel =>
                    have hl1 := L1.out
                    have hl2 := L2.out
                    have hb1 := T3.out.hb1
                    have hb2 := T3.out.hb2
                    refine ⟨l2 ++ [([a0 + c0, a1 + c1, a2 + c2, a3 + c3, a4 + c4, a5 + c5, a6 + c6, a7 + c7], mc * md)], done2 ++ [([c0, c1, c2, c3, c4, c5, c6, c7], md)], z1 ++ z2, rfl, ?_, ?_, ?_, T3.out.put (m := ([a0 + c0, a1 + c1, a2 + c2, a3 + c3, a4 + c4, a5 + c5, a6 + c6, a7 + c7], mc * md)) HO.out HG7.out HF.out, T1.out.kept HG7.out (by simp; omega) (by simp), ?_, ?_⟩
                    · refine List.Perm.trans ?_ HPM2.out
                      rw [List.append_assoc]
                      exact List.Perm.append_left _ (List.perm_middle (l₁ := z1) (l₂ := z2)).symm
                    · rw [List.map_append, ← List.append_assoc]
                      exact List.Perm.append_right _ HLP2.out
                    · rw [List.all_append, HOK2.out]
                      simp [HEX.out]
                    · rw [List.map_append]
                      exact TR.out.kept HG7.out (by simp; omega) (by simp; omega)
                    · exact (HG7.out.block w1.heap.size (blk_lt TX.out) (by simp; omega)).trans TX.out
                  case measure => simp
                | false =>
                  have hb : Below w.heap.size w w7 := T3.out.below.grown HG7.out T3.out.below.size (fun k hk => by injection hk with hk; omega)
                  have HB7 := Aside0.mk hb
                  have hbad : okMul p q = true → ∀ l : Po, l.Perm (prodL p q) → fits (sumL l) = false := by
                    intro hk l hl
                    have hper : (prodL done q ++ done2.map (mulM ([a0, a1, a2, a3, a4, a5, a6, a7], mc)) ++ [([a0 + c0, a1 + c1, a2 + c2, a3 + c3, a4 + c4, a5 + c5, a6 + c6, a7 + c7], mc * md)] ++ ((z1 ++ z2).map (mulM ([a0, a1, a2, a3, a4, a5, a6, a7], mc)) ++ prodL (y1 ++ y2) q)).Perm (prodL p q) := by
                      have h1 : (prodL (done ++ (y1 ++ ([a0, a1, a2, a3, a4, a5, a6, a7], mc) :: y2)) q).Perm (prodL p q) := List.Perm.flatMap_right _ HPM.out
                      refine List.Perm.trans ?_ h1
                      have h2 : (done ++ ([a0, a1, a2, a3, a4, a5, a6, a7], mc) :: (y1 ++ y2)).Perm (done ++ (y1 ++ ([a0, a1, a2, a3, a4, a5, a6, a7], mc) :: y2)) := List.Perm.append_left _ List.perm_middle.symm
                      refine List.Perm.trans ?_ (List.Perm.flatMap_right _ h2)
                      have h3 : prodL (done ++ ([a0, a1, a2, a3, a4, a5, a6, a7], mc) :: (y1 ++ y2)) q = prodL done q ++ (q.map (mulM ([a0, a1, a2, a3, a4, a5, a6, a7], mc)) ++ prodL (y1 ++ y2) q) := by simp [prodL]
                      change List.Perm _ (prodL (done ++ ([a0, a1, a2, a3, a4, a5, a6, a7], mc) :: (y1 ++ y2)) q)
                      rw [h3]
                      simp only [List.append_assoc]
                      refine List.Perm.append_left _ ?_
                      rw [← List.append_assoc, ← List.append_assoc]
                      refine List.Perm.append_right _ ?_
                      have h4 : ((done2 ++ (([c0, c1, c2, c3, c4, c5, c6, c7], md) :: (z1 ++ z2))).map (mulM ([a0, a1, a2, a3, a4, a5, a6, a7], mc))).Perm (q.map (mulM ([a0, a1, a2, a3, a4, a5, a6, a7], mc))) :=
                        List.Perm.map _ ((List.Perm.append_left _ List.perm_middle.symm).trans HPM2.out)
                      refine List.Perm.trans (List.Perm.of_eq ?_) h4
                      simp [mulM, mulX]
                    rw [fits_perm (sumL_perm (hl.trans hper.symm))]
                    have hall : okP (prodL p q) := okP_prodL G1.out.gp G2.out.gp
                    have hall2 := okP_perm hper.symm hall
                    refine fits_false _ _ (fun m hm => hall2 m (by rw [List.mem_append]; exact .inr hm)) ?_
                    rw [sumL_snoc, ← hft]
                    have h5 : (sumL (prodL done q ++ done2.map (mulM ([a0, a1, a2, a3, a4, a5, a6, a7], mc)))).Perm (sumL l2) := sumL_perm HLP2.out.symm
                    have h6 : (addM [a0 + c0, a1 + c1, a2 + c2, a3 + c3, a4 + c4, a5 + c5, a6 + c6, a7 + c7] (mc * md) (sumL (prodL done q ++ done2.map (mulM ([a0, a1, a2, a3, a4, a5, a6, a7], mc))))).Perm (addM [a0 + c0, a1 + c1, a2 + c2, a3 + c3, a4 + c4, a5 + c5, a6 + c6, a7 + c7] (mc * md) (sumL l2)) := by
                      have := sumL_perm (HLP2.out.symm.append_right [([a0 + c0, a1 + c1, a2 + c2, a3 + c3, a4 + c4, a5 + c5, a6 + c6, a7 + c7], mc * md)])
                      rwa [sumL_snoc, sumL_snoc] at this
                    exact fits_perm h6
                  have HBAD := Aside0.mk hbad
                  clear hft hb hbad
                  go_wp2
                  go_ret2
                  have hz : (okMul p q && fits (sumL (prodL p q))) = false := by
                    cases hk : okMul p q with
                    | false => rfl
                    | true => rw [Bool.true_and]; exact HBAD.out hk _ (List.Perm.refl _)
                  exact ⟨prodL p q, none, List.Perm.refl _, by rw [hz]; rfl, (fun h => by rw [hz] at h; cases h), HB7.out⟩
              · have bmd : decide (mc * md ≤ 1000000000000000) = false := decide_eq_false hmd
                have HBAD := Aside0.mk (okMul_false M1.out M0.out (hex.trans bmd))
                have HBEL := Aside0.mk T3.out.below
                clear hn hex hz6 hg6 hb6 hmd
                go_wp2
                go_ret2
                exact ⟨prodL p q, none, List.Perm.refl _, by rw [HBAD.out]; rfl, (fun h => by rw [HBAD.out] at h; cases h), HBEL.out⟩
end Go.Proofs.Ythkclagcbjnckaa.Pa

namespace Go.Proofs.Ythkclagcbjnckaa.Pa
open Go.RowKit Go.Proofs.YthkclagcbjnckaaW.PrintWords Go.Proofs.YthkclagcbjnckaaW.PrintLast Go.Proofs.YthkclagcbjnckaaW.PrintMore
theorem S27.ind {P : S27 → Prop} (h : ∀ x : S27, (∀ y ∈ x.f2, P y) → P x) : ∀ x, P x := by
  intro x
  refine S27.rec (motive_1 := P) (motive_2 := fun l => ∀ y ∈ l, P y) ?_ ?_ ?_ x
  · intro a b l hl; exact h ⟨a, b, l⟩ hl
  · intro y hy; cases hy
  · intro a l ha hl y hy
    rcases List.mem_cons.1 hy with rfl | hy
    · exact ha
    · exact hl y hy
def idxOf (p : S27 → Bool) : List S27 → Int → Int
  | [], _ => -1
  | x :: r, k => if p x then k else idxOf p r (k + 1)
theorem idxOf_at {p : S27 → Bool} {l : List S27} {k : Nat} (hk : k < l.length) (j : Int) : idxOf p (l.drop k) j = if p (l.getD k z27) then j else idxOf p (l.drop (k + 1)) (j + 1) := by
  rw [List.drop_eq_getElem_cons hk]
  simp only [idxOf]
  rw [List.getD_eq_getElem?_getD, List.getElem?_eq_getElem hk]
  rfl
theorem len_ok {α : Type} {d : Kd α} {w : World} {A : Option Addr} {n : Nat} {xs : List α} (h : d.C w A n xs) : n ≤ 9223372036854775807 := h.2.1
set_option maxRecDepth 100000 in
set_option maxHeartbeats 1000000 in
theorem indexFunc_c (g : Nat) (cap : Array Value) (p : S27 → Bool) (l : List S27) (A : Option Addr) (c : Nat) (w : World) (hr : k27.C w A l.length l)
    (eg : ∀ (args : Array Value) (w : World), (callFunc g args).run Try.prog w = .ok (.enter g args) w)
    (hp : ∀ x ∈ l, ∀ A2 c2 W, Below w.heap.size w W → k27.C W A2 x.f2.length x.f2 → x.f2.length ≤ c2 →
      Calls Try.prog g (#[.agg #[.int .i64 x.f0, .int .i64 x.f1, .slice A2 x.f2.length c2]] ++ cap) W fun e W' => e = .returned (.bool (p x)) ∧ Below W.heap.size W W') :
    Calls Try.prog 112 #[.slice A l.length c, .func (.func g) #[] cap] w fun e w' => e = .returned (.int .i64 (idxOf p l 0)) ∧ Below w.heap.size w w' := by
  have hlen := len_ok hr
  have HR := Aside0.mk hr
  have HP := Aside0.mk hp
  clear hr hp
  go_enter Try.func112, Try.ntmps112
  go_wp2
  go_loopw [8] (fun v8 w' => ∃ k : Nat, v8 = .int .i64 k ∧ k ≤ l.length ∧ Aside0 (idxOf p l 0 = idxOf p (l.drop k) k) ∧ Below w.heap.size w w') (fun v8 _ => l.length - (intOf v8).toNat)
  case atStart => exact ⟨0, rfl, Nat.zero_le _, ⟨rfl⟩, Below.refl _ _⟩
  case round =>
    obtain ⟨k, rfl, hk, HI, HB⟩ := hrel
    have HBa := Aside0.mk HB
    clear HB
    by_cases hlt : k < l.length
    · obtain ⟨ad, A2, c2, rfl, h0, h1, h2, h3, h4⟩ := at_T27 (Kd.C_below HR.out HBa.out) (k : Int) (by omega) (by omega)
      rw [Int.toNat_natCast] at h0 h1 h2
      have hq := idxOf_at (p := p) hlt (k : Int)
      have hd : rd_T27 l (k : Int) = l.getD k z27 := by simp [rd_T27]
      rw [hd] at h0 h1 h2 h3 h4
      have hm : l.getD k z27 ∈ l := by rw [List.getD_eq_getElem?_getD, List.getElem?_eq_getElem hlt]; exact List.getElem_mem hlt
      obtain ⟨y, hy⟩ : ∃ y, y = l.getD k z27 := ⟨_, rfl⟩
      rw [← hy] at h0 h1 h2 h3 h4 hq hm
      clear hy hd
      have HQ := Aside0.mk hq
      have H3 := Aside0.mk h3
      have H4 := Aside0.mk h4
      clear hq h3 h4
      go_wp2_with fail
      refine (HP.out y hm _ _ _ HBa.out H4.out H3.out).mono ?_
      rintro e w' ⟨rfl, hb⟩
      have HB1 := Aside0.mk (below_then HBa.out HBa.out.size hb)
      clear hb
      cases hpy : p y with
      | true =>
        have hq := HQ.out
        rw [hpy, if_pos rfl] at hq
        have HF := Aside0.mk (HI.out.trans hq)
        clear hq hpy
        go_wp2
        go_ret
        exact ⟨by rw [HF.out]; rfl, HB1.out⟩
      | false =>
        have hq := HQ.out
        rw [hpy, if_neg (by simp)] at hq
        have HF := Aside0.mk (HI.out.trans hq)
        clear hq hpy
        go_wp2
        go_roundw
        case rel => exact ⟨k + 1, by go_num, by omega, ⟨by rw [HF.out]; simp⟩, HB1.out⟩
        case measure => simp [intOf]; omega
    · obtain rfl : k = l.length := by omega
      have hF := HI.out
      rw [List.drop_length] at hF
      have HF := Aside0.mk hF
      clear hF
      go_wp2
      go_ret
      exact ⟨by rw [HF.out]; rfl, HBa.out⟩
theorem idxOf_any (p : S27 → Bool) : ∀ (l : List S27) (k : Int), 0 ≤ k → (0 ≤ idxOf p l k ↔ l.any p = true) ∧ (l.any p = true → k ≤ idxOf p l k)
  | [], k, hk => by simp [idxOf]
  | x :: r, k, hk => by
    obtain ⟨h1, h2⟩ := idxOf_any p r (k + 1) (by omega)
    by_cases hx : p x = true
    · have e : idxOf p (x :: r) k = k := by simp [idxOf, hx]
      rw [e]; simp [hx, hk]
    · have e : idxOf p (x :: r) k = idxOf p r (k + 1) := by simp [idxOf, hx]
      rw [e, List.any_cons, Bool.not_eq_true _ |>.mp hx, Bool.false_or]
      exact ⟨h1, fun h => by have := h2 h; omega⟩
set_option maxRecDepth 100000 in
set_option maxHeartbeats 1000000 in
theorem containsFunc_c (g : Nat) (cap : Array Value) (p : S27 → Bool) (l : List S27) (A : Option Addr) (c : Nat) (w : World) (hr : k27.C w A l.length l)
    (eg : ∀ (args : Array Value) (w : World), (callFunc g args).run Try.prog w = .ok (.enter g args) w)
    (hp : ∀ x ∈ l, ∀ A2 c2 W, Below w.heap.size w W → k27.C W A2 x.f2.length x.f2 → x.f2.length ≤ c2 →
      Calls Try.prog g (#[.agg #[.int .i64 x.f0, .int .i64 x.f1, .slice A2 x.f2.length c2]] ++ cap) W fun e W' => e = .returned (.bool (p x)) ∧ Below W.heap.size W W') :
    Calls Try.prog 92 #[.slice A l.length c, .func (.func g) #[] cap] w fun e w' => e = .returned (.bool (l.any p)) ∧ Below w.heap.size w w' := by
  have HR := Aside0.mk hr
  have HP := Aside0.mk hp
  have HI := Aside0.mk (show decide (0 ≤ idxOf p l 0) = l.any p from Bool.eq_iff_iff.2 (by rw [decide_eq_true_iff]; exact (idxOf_any p l 0 (by omega)).1))
  have HE := Aside0.mk eg
  clear hr hp eg
  go_enter Try.func92, Try.ntmps92
  go_wp2_with fail
  refine (indexFunc_c g cap p l A c _ HR.out HE.out HP.out).mono ?_
  rintro e w' ⟨rfl, hb⟩
  have HB := Aside0.mk hb
  clear hb
  obtain ⟨i, hi⟩ : ∃ i, i = idxOf p l 0 := ⟨_, rfl⟩
  have HI2 := HI.out
  rw [← hi] at HI2 ⊢
  have HJ := Aside0.mk HI2
  clear HI2 hi HI
  go_wp2
  go_ret
  exact ⟨by rw [← HJ.out]; rfl, HB.out⟩
mutual
def rightB : S27 → Int → Bool
  | ⟨op, n, l⟩, top => !(decide (op = 1) && decide (top < n)) && rightL l top
def rightL : List S27 → Int → Bool
  | [], _ => true
  | x :: r, top => rightB x top && rightL r top
end
theorem rightL_any (l : List S27) (top : Int) : rightL l top = !(l.any fun x => !rightB x top) := by
  induction l with
  | nil => rfl
  | cons x r ih => simp [rightL, ih]
theorem enters93 : ∀ (args : Array Value) (w : World), (callFunc 93 args).run Try.prog w = .ok (.enter 93 args) w := enters_of Try.func93 (by kernel_rfl) rfl
set_option maxRecDepth 100000 in
set_option maxHeartbeats 1000000 in
theorem right1_c (x : S27) (top : Int) (B : Nat) (A : Option Addr) (c : Nat) (w : World) (hr : k27.C w A x.f2.length x.f2) (hc : x.f2.length ≤ c) (hB : w.cell? ⟨B, 0, none⟩ = some (.int .i64 top))
    (h70 : ∀ W, k27.C W A x.f2.length x.f2 → Calls Try.prog 70 #[.agg #[.int .i64 x.f0, .int .i64 x.f1, .slice A x.f2.length c], .int .i64 top] W fun e w' => e = .returned (.bool (rightB x top)) ∧ Below W.heap.size W w') :
    Calls Try.prog 93 #[.agg #[.int .i64 x.f0, .int .i64 x.f1, .slice A x.f2.length c], .pointer (some ⟨B, 0, none⟩)] w fun e w' => e = .returned (.bool (!rightB x top)) ∧ Below w.heap.size w w' := by
  have H7 := Aside0.mk h70
  have HR := Aside0.mk hr
  have HC := Aside0.mk hc
  have hu27 := Try.underlying27
  have hlt := World.block_lt_of_cell? w _ hB
  have hB2 : ∀ o, (w.alloc o).cell? ⟨B, 0, none⟩ = some (.int .i64 top) := fun o => (World.cell?_alloc_lt _ _ _ hlt).trans hB
  clear h70 hr hc hB
  go_enter Try.func93, Try.ntmps93
  go_wp2_with fail
  refine (H7.out _ (Kd.C_below HR.out (below_alloc (Below.refl _ _) _))).mono ?_
  rintro e w' ⟨rfl, hb⟩
  have HB1 := Aside0.mk (below_then (below_alloc (Below.refl _ _) _) (by simp) hb)
  clear hb
  go_wp2
  go_ret
  exact ⟨rfl, HB1.out⟩
set_option maxRecDepth 100000 in
set_option maxHeartbeats 1000000 in
theorem right_c (x : S27) : ∀ (top : Int) (A : Option Addr) (c : Nat) (w : World), k27.C w A x.f2.length x.f2 → x.f2.length ≤ c →
    Calls Try.prog 70 #[.agg #[.int .i64 x.f0, .int .i64 x.f1, .slice A x.f2.length c], .int .i64 top] w fun e w' => e = .returned (.bool (rightB x top)) ∧ Below w.heap.size w w' := by
  induction x using S27.ind with
  | h x ih =>
  intro top A c w hr hc
  obtain ⟨op, n, l⟩ := x
  simp only at hr hc ih ⊢
  have IH := Aside0.mk ih
  have HR := Aside0.mk hr
  have HC := Aside0.mk hc
  clear ih hr hc
  by_cases h1 : op = 1 ∧ top < n
  · have b1 : (op == 1) = true := by simp [h1.1]
    have b2 : decide (top < n) = true := by simp [h1.2]
    have HF : Aside0 (rightB ⟨op, n, l⟩ top = false) := ⟨by simp [rightB, h1.1, h1.2]⟩
    clear h1
    go_enter Try.func70, Try.ntmps70
    go_wp2
    go_ret
    exact ⟨by rw [HF.out]; rfl, below_alloc (below_alloc (Below.refl _ _) _) _⟩
  · have HF : Aside0 (rightB ⟨op, n, l⟩ top = !(l.any fun x => !rightB x top)) := ⟨by
      have : (decide (op = 1) && decide (top < n)) = false := by simpa using fun a b => h1 ⟨a, b⟩
      simp [rightB, this, rightL_any]⟩
    by_cases h2 : op = 1
    · have b1 : (op == 1) = true := by simp [h2]
      have b2 : decide (top < n) = false := by simpa using fun h => h1 ⟨h2, h⟩
      clear h1 h2
      go_enter Try.func70, Try.ntmps70
      go_wp2_with fail
      have HB := Aside0.mk (below_alloc (below_alloc (Below.refl w.heap.size w) (.cells #[.int .i64 op, .int .i64 n, .slice A l.length c] 27)) (.cells #[.int .i64 top] 3))
      refine (containsFunc_c 93 _ (fun x => !rightB x top) l A c _ (Kd.C_below HR.out HB.out) enters93 ?_).mono ?_
      · intro x hx A2 c2 W hb hC hc
        refine right1_c x top _ A2 c2 W hC hc ?_ (fun W2 h2 => IH.out x hx top A2 c2 W2 h2 hc)
        rw [hb.cell (p := ⟨w.heap.size + 1, 0, none⟩) (by simp)]
        go_simp
      · rintro e w' ⟨rfl, hb⟩
        have HB1 := Aside0.mk (below_then HB.out HB.out.size hb)
        clear hb
        go_wp2
        go_ret
        exact ⟨by rw [HF.out]; rfl, HB1.out⟩
    · have b1 : (op == 1) = false := by simp [h2]
      clear h1 h2
      go_enter Try.func70, Try.ntmps70
      go_wp2_with fail
      have HB := Aside0.mk (below_alloc (below_alloc (Below.refl w.heap.size w) (.cells #[.int .i64 op, .int .i64 n, .slice A l.length c] 27)) (.cells #[.int .i64 top] 3))
      refine (containsFunc_c 93 _ (fun x => !rightB x top) l A c _ (Kd.C_below HR.out HB.out) enters93 ?_).mono ?_
      · intro x hx A2 c2 W hb hC hc
        refine right1_c x top _ A2 c2 W hC hc ?_ (fun W2 h2 => IH.out x hx top A2 c2 W2 h2 hc)
        rw [hb.cell (p := ⟨w.heap.size + 1, 0, none⟩) (by simp)]
        go_simp
      · rintro e w' ⟨rfl, hb⟩
        have HB1 := Aside0.mk (below_then HB.out HB.out.size hb)
        clear hb
        go_wp2
        go_ret
        exact ⟨by rw [HF.out]; rfl, HB1.out⟩
end Go.Proofs.Ythkclagcbjnckaa.Pa

