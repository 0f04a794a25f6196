/-
  Plain, Eq, Is, Join and what a plain value that may be comes to: walks by the kit.
  Conditions: none.
-/
import Derived.Test.YtkpnnhebfaggeaaDoorKitA
import Derived.Test.YtkpnnhebfaggeaaDoorKitB
import Derived.Maps.AppendAt
namespace Go.Proofs.YtkpnnhebfaggeaaDoor
section
open Go.RowKit
set_option maxRecDepth 100000
mutual
/-- A plain value's cells; its lists' own blocks, each list from its block's beginning. -/
def HasP (w : World) : PT → List Value → List Nat → Prop
  | .mk k n s l, cs, bs => s.size ≤ 140737488355328 ∧ l.length ≤ 4398046511104 ∧ ∃ la lc, cs = [.int .i64 k, .int .i64 n, .string s, .slice la l.length lc] ∧
      ((l = [] ∧ bs = []) ∨ ∃ b' xs bl, l ≠ [] ∧ la = some ⟨b', 0, none⟩ ∧ (∀ j v, xs[j]? = some v → w.cell? ⟨b', j, none⟩ = some v) ∧ HasPs w l xs bl ∧ bs = b' :: bl)
def HasPs (w : World) : List PT → List Value → List Nat → Prop
  | [], xs, bs => xs = [] ∧ bs = []
  | p :: r, xs, bs => ∃ cs xr b br, xs = cs ++ xr ∧ bs = b ++ br ∧ HasP w p cs b ∧ HasPs w r xr br
end
theorem HasP.len {w : World} {p : PT} {cs : List Value} {bs : List Nat} (h : HasP w p cs bs) : cs.length = 4 := by
  cases p with
  | mk k n s l =>
    obtain ⟨_, _, la, lc, rfl, _⟩ := h
    rfl
theorem HasPs.len {w : World} : ∀ {l : List PT} {xs : List Value} {bs : List Nat}, HasPs w l xs bs → xs.length = 4 * l.length
  | [], xs, bs, h => by rw [h.1]; rfl
  | p :: r, xs, bs, h => by
    obtain ⟨cs, xr, b, br, rfl, rfl, h1, h2⟩ := h
    rw [List.length_append, h1.len, HasPs.len h2, List.length_cons]
    omega
theorem cellOf_heap {w w' : World} {b j : Nat} (h : w'.heap[b]? = w.heap[b]?) : w'.cell? ⟨b, j, none⟩ = w.cell? ⟨b, j, none⟩ := by
  simp only [World.cell?, h]
mutual
theorem HasP.keep {w w' : World} : ∀ (p : PT) (cs : List Value) (bs : List Nat), (∀ g ∈ bs, w'.heap[g]? = w.heap[g]?) → HasP w p cs bs → HasP w' p cs bs
  | .mk k n s l, cs, bs, hk, h => by
    simp only [HasP] at h ⊢
    obtain ⟨h1, h2, la, lc, h3, h4⟩ := h
    refine ⟨h1, h2, la, lc, h3, ?_⟩
    rcases h4 with h4 | ⟨b', xs, bl, h5, h6, h7, h8, rfl⟩
    · exact .inl h4
    · refine .inr ⟨b', xs, bl, h5, h6, fun j v hv => ?_, HasPs.keep l xs bl (fun g hg => hk g (by simp [hg])) h8, rfl⟩
      rw [cellOf_heap (hk b' (by simp))]
      exact h7 j v hv
theorem HasPs.keep {w w' : World} : ∀ (l : List PT) (xs : List Value) (bs : List Nat), (∀ g ∈ bs, w'.heap[g]? = w.heap[g]?) → HasPs w l xs bs → HasPs w' l xs bs
  | [], xs, bs, hk, h => h
  | p :: r, xs, bs, hk, h => by
    simp only [HasPs] at h ⊢
    obtain ⟨cs, xr, b, br, rfl, rfl, h1, h2⟩ := h
    exact ⟨cs, xr, b, br, rfl, rfl, HasP.keep p cs b (fun g hg => hk g (by simp [hg])) h1, HasPs.keep r xr br (fun g hg => hk g (by simp [hg])) h2⟩
end
mutual
theorem HasP.lt {w : World} : ∀ (p : PT) (cs : List Value) (bs : List Nat), HasP w p cs bs → ∀ g ∈ bs, g < w.heap.size
  | .mk k n s l, cs, bs, h, g, hg => by
    simp only [HasP] at h
    obtain ⟨h1, h2, la, lc, h3, h4⟩ := h
    rcases h4 with ⟨_, rfl⟩ | ⟨b', xs, bl, h5, h6, h7, h8, rfl⟩
    · simp at hg
    · rcases List.mem_cons.1 hg with rfl | hg
      · have hl := h8.len
        have hp : 0 < l.length := List.length_pos_iff.2 h5
        have hx : 0 < xs.length := by omega
        exact cell_lt (h7 0 xs[0] (by simp [hx]))
      · exact HasPs.lt l xs bl h8 g hg
theorem HasPs.lt {w : World} : ∀ (l : List PT) (xs : List Value) (bs : List Nat), HasPs w l xs bs → ∀ g ∈ bs, g < w.heap.size
  | [], xs, bs, h, g, hg => by rw [h.2] at hg; simp at hg
  | p :: r, xs, bs, h, g, hg => by
    simp only [HasPs] at h
    obtain ⟨cs, xr, b, br, rfl, rfl, h1, h2⟩ := h
    rcases List.mem_append.1 hg with hg | hg
    · exact HasP.lt p cs b h1 g hg
    · exact HasPs.lt r xr br h2 g hg
end
theorem HasPs.snoc {w : World} : ∀ (l : List PT) (xs : List Value) (bs : List Nat) (p : PT) (cs : List Value) (b : List Nat), HasPs w l xs bs → HasP w p cs b → HasPs w (l ++ [p]) (xs ++ cs) (bs ++ b)
  | [], xs, bs, p, cs, b, h, hp => by
    obtain ⟨rfl, rfl⟩ := h
    exact ⟨cs, [], b, [], by simp, by simp, hp, rfl, rfl⟩
  | q :: r, xs, bs, p, cs, b, h, hp => by
    obtain ⟨cs', xr, b', br, rfl, rfl, h1, h2⟩ := h
    exact ⟨cs', xr ++ cs, b', br ++ b, by simp, by simp, h1, HasPs.snoc r xr br p cs b h2 hp⟩
mutual
theorem HasP.inP {w : World} : ∀ (p : PT) (cs : List Value) (bs : List Nat) (b o : Nat), HasP w p cs bs → (∀ j v, cs[j]? = some v → w.cell? ⟨b, o + j, none⟩ = some v) → InP w b o p
  | .mk k n s l, cs, bs, b, o, h, hc => by
    simp only [HasP] at h
    obtain ⟨h1, h2, la, lc, rfl, h4⟩ := h
    refine ⟨h1, h2, la, lc, ⟨hc 0 _ rfl, hc 1 _ rfl, hc 2 _ rfl, hc 3 _ rfl⟩, fun hl => ?_⟩
    rcases h4 with ⟨h4, _⟩ | ⟨b', xs, bl, h5, h6, h7, h8, rfl⟩
    · exact absurd h4 hl
    · exact ⟨b', 0, h6, HasPs.inPs l xs bl b' 0 h8 (fun j v hv => by rw [Nat.zero_add]; exact h7 j v hv)⟩
theorem HasPs.inPs {w : World} : ∀ (l : List PT) (xs : List Value) (bs : List Nat) (b o : Nat), HasPs w l xs bs → (∀ j v, xs[j]? = some v → w.cell? ⟨b, o + j, none⟩ = some v) → InPs w b o l
  | [], xs, bs, b, o, h, hc => trivial
  | p :: r, xs, bs, b, o, h, hc => by
    simp only [HasPs] at h
    obtain ⟨cs, xr, bp, br, rfl, rfl, h1, h2⟩ := h
    have hl := h1.len
    refine ⟨HasP.inP p cs bp b o h1 (fun j v hv => hc j v ?_), HasPs.inPs r xr br b (o + 4) h2 (fun j v hv => ?_)⟩
    · rw [List.getElem?_append_left (by rcases Nat.lt_or_ge j cs.length with h' | h'; exact h'; simp [List.getElem?_eq_none h'] at hv)]
      exact hv
    · have := hc (4 + j) v (by rw [List.getElem?_append_right (by omega), hl, Nat.add_sub_cancel_left]; exact hv)
      rw [Nat.add_assoc]; exact this
end
theorem HasP.arg {w : World} {p : PT} {cs : List Value} {bs : List Nat} (h : HasP w p cs bs) : ArgP w p (.agg cs.toArray) := by
  cases p with
  | mk k n s l =>
    simp only [HasP] at h
    obtain ⟨h1, h2, la, lc, rfl, h4⟩ := h
    refine ⟨h1, h2, la, lc, rfl, fun hl => ?_⟩
    rcases h4 with ⟨h4, _⟩ | ⟨b', xs, bl, h5, h6, h7, h8, rfl⟩
    · exact absurd h4 hl
    · exact ⟨b', 0, h6, HasPs.inPs l xs bl b' 0 h8 (fun j v hv => by rw [Nat.zero_add]; exact h7 j v hv)⟩
end

section
open Go.RowKit
set_option maxRecDepth 100000
mutual
def nodesV : VT → Nat
  | .list l => 1 + nodesVs l
  | .unit => 1
  | .truth _ => 1
  | .int _ => 1
  | .text _ => 1
def nodesVs : List VT → Nat
  | [] => 0
  | t :: r => nodesV t + nodesVs r
end
mutual
def depV : VT → Nat
  | .list l => depVs l
  | .unit => 0
  | .truth _ => 0
  | .int _ => 0
  | .text _ => 0
def depVs : List VT → Nat
  | [] => 0
  | t :: r => max (1 + depV t) (depVs r)
end
mutual
def plainOf : VT → PT
  | .unit => .mk 1 0 ⟨#[]⟩ []
  | .truth b => .mk 2 (if b then 1 else 0) ⟨#[]⟩ []
  | .int n => .mk 3 n ⟨#[]⟩ []
  | .text s => .mk 4 0 s []
  | .list l => .mk 5 0 ⟨#[]⟩ (plainsOf l)
def plainsOf : List VT → List PT
  | [] => []
  | t :: r => plainOf t :: plainsOf r
end
mutual
def txtV : VT → Prop
  | .text s => s.size ≤ 140737488355328
  | .list l => txtVs l
  | .unit => True
  | .truth _ => True
  | .int _ => True
def txtVs : List VT → Prop
  | [] => True
  | t :: r => txtV t ∧ txtVs r
end
/-- The counter lies in block r. -/
def CN (r c : Nat) (w : World) : Prop := w.heap[r]? = some (.cells #[.int .i64 c] 3 (0, 0))
theorem CN.cell {r c : Nat} {w : World} (h : CN r c w) : w.cell? ⟨r, 0, none⟩ = some (.int .i64 c) ∧ w.frozen? ⟨r, 0, none⟩ = false := by
  refine ⟨?_, Lib.frozen_of_heap h 0⟩
  rw [Lib.cell_of_heap h]; rfl
theorem CN.lt {r c : Nat} {w : World} (h : CN r c w) : r < w.heap.size := (Array.getElem?_eq_some_iff.1 h).1
theorem CN.to {r c : Nat} {w : World} (h : CN r c w) (c' : Nat) : CN r c' (w.setCell ⟨r, 0, none⟩ (.int .i64 c')) := by
  have hlt := h.lt
  unfold CN at *
  simp only [World.setCell, Array.getElem?_modify, h]
  simp
theorem CN.heap {r c : Nat} {w w' : World} (h : CN r c w) (hh : w'.heap[r]? = w.heap[r]?) : CN r c w' := by
  unfold CN at *
  rw [hh]; exact h
def PlainR (r c : Nat) (t : VT) (w : World) (e : Ending) (w' : World) : Prop :=
  ∃ cs bs, e = .returned (.tuple #[.agg cs.toArray, .bool true]) ∧ HasP w' (plainOf t) cs bs ∧ (∀ g ∈ bs, w.heap.size ≤ g) ∧ CN r (c + nodesV t) w' ∧ KB r w w'
def PlainFor (t : VT) : Prop := ∀ (w : World) (v : Value) (vb : List Nat) (r c deep : Nat), RepV w t v vb → r ∉ vb → CN r c w → c + nodesV t ≤ 70000 → deep + depV t ≤ 70 → txtV t →
  Calls Tryd.prog 39 #[v, .pointer (some ⟨r, 0, none⟩), .int .i64 deep] w (PlainR r c t w)
theorem pl_leaf {w : World} {r c : Nat} {t : VT} {k n : Int} {s : ByteArray} (hr : CN r c w) (hn : nodesV t = 1) (hp : plainOf t = .mk k n s []) (hs : s.size ≤ 140737488355328) :
    PlainR r c t w (.returned (.tuple #[.agg #[.int .i64 k, .int .i64 n, .string s, .slice none 0 0], .bool true])) ((w.setCell ⟨r, 0, none⟩ (.int .i64 ((c : Int) + 1))).alloc (.cells #[.int .i64 k, .int .i64 n, .string s, .slice none 0 0] 24)) := by
  have h1 := hr.to (c + 1)
  have h2 : KB r w (w.setCell ⟨r, 0, none⟩ (.int .i64 ((c : Int) + 1))) := KB.set 0 _
  refine ⟨[.int .i64 k, .int .i64 n, .string s, .slice none 0 0], [], rfl, ?_, by simp, ?_, h2.trans (KB.of_below (alloc_below _ _))⟩
  · rw [hp]
    exact ⟨hs, by simp, none, 0, rfl, .inl ⟨rfl, rfl⟩⟩
  · rw [hn]
    exact h1.heap (Below.heap_alloc _ _ _ h1.lt)
theorem PlainR.alloc {w W : World} {r c : Nat} {t : VT} {e : Ending} (h : PlainR r c t w e W) (o : Obj) : PlainR r c t w e (W.alloc o) := by
  obtain ⟨cs, bs, he, h1, h2, h3, h4⟩ := h
  exact ⟨cs, bs, he, HasP.keep _ _ _ (fun g hg => Below.heap_alloc _ _ _ (HasP.lt _ _ _ h1 g hg)) h1, h2, h3.heap (Below.heap_alloc _ _ _ h3.lt), h4.trans (KB.of_below (alloc_below _ _))⟩
set_option maxHeartbeats 1000000 in
theorem pl_unit : PlainFor .unit := by
  intro w v vb r c deep hv hrv hr hc hd ht
  obtain ⟨rfl, rfl⟩ := hv
  have hc' : c + 1 ≤ 70000 := hc
  have hd' : deep ≤ 70 := hd
  have t1 : ¬ (70000 < (c : Int) + 1) := by omega
  have t2 : ¬ (70 < (deep : Int)) := by omega
  clear hc' hd'
  obtain ⟨k0, k1⟩ := hr.cell
  have HR := Lib.hid hr
  have HT := Lib.hid ht
  have hrl := hr.lt
  clear hr hc hd ht hrv
  go_enter Tryd.func39, Tryd.ntmps39
  go_wp2_with fail
  exact bodyPost_ret (v := .tuple #[.agg #[.int .i64 1, .int .i64 0, .string ⟨#[]⟩, .slice none 0 0], .bool true]) (by simp [results, Tryd.results39, go_sem]) rfl (PlainR.alloc (pl_leaf HR.out rfl rfl (show (⟨#[]⟩ : ByteArray).size ≤ 140737488355328 by decide)) _)
set_option maxHeartbeats 1000000 in
theorem pl_int (n : Int) : PlainFor (.int n) := by
  intro w v vb r c deep hv hrv hr hc hd ht
  obtain ⟨rfl, rfl⟩ := hv
  have hc' : c + 1 ≤ 70000 := hc
  have hd' : deep ≤ 70 := hd
  have t1 : ¬ (70000 < (c : Int) + 1) := by omega
  have t2 : ¬ (70 < (deep : Int)) := by omega
  clear hc' hd'
  obtain ⟨k0, k1⟩ := hr.cell
  have HR := Lib.hid hr
  have HT := Lib.hid ht
  have hrl := hr.lt
  clear hr hc hd ht hrv
  go_enter Tryd.func39, Tryd.ntmps39
  go_wp2_with fail
  exact bodyPost_ret (v := .tuple #[.agg #[.int .i64 3, .int .i64 n, .string ⟨#[]⟩, .slice none 0 0], .bool true]) (by simp [results, Tryd.results39, go_sem]) rfl (pl_leaf HR.out rfl rfl (show (⟨#[]⟩ : ByteArray).size ≤ 140737488355328 by decide))
set_option maxHeartbeats 1000000 in
theorem pl_text (s : ByteArray) : PlainFor (.text s) := by
  intro w v vb r c deep hv hrv hr hc hd ht
  obtain ⟨rfl, rfl⟩ := hv
  have hc' : c + 1 ≤ 70000 := hc
  have hd' : deep ≤ 70 := hd
  have t1 : ¬ (70000 < (c : Int) + 1) := by omega
  have t2 : ¬ (70 < (deep : Int)) := by omega
  clear hc' hd'
  obtain ⟨k0, k1⟩ := hr.cell
  have HR := Lib.hid hr
  have HT := Lib.hid ht
  have hrl := hr.lt
  clear hr hc hd ht hrv
  go_enter Tryd.func39, Tryd.ntmps39
  go_wp2_with fail
  exact bodyPost_ret (v := .tuple #[.agg #[.int .i64 4, .int .i64 0, .string s, .slice none 0 0], .bool true]) (by simp [results, Tryd.results39, go_sem]) rfl (pl_leaf HR.out rfl rfl HT.out)
set_option maxHeartbeats 1000000 in
theorem pl_yes : PlainFor (.truth true) := by
  intro w v vb r c deep hv hrv hr hc hd ht
  obtain ⟨rfl, rfl⟩ := hv
  have hc' : c + 1 ≤ 70000 := hc
  have hd' : deep ≤ 70 := hd
  have t1 : ¬ (70000 < (c : Int) + 1) := by omega
  have t2 : ¬ (70 < (deep : Int)) := by omega
  clear hc' hd'
  obtain ⟨k0, k1⟩ := hr.cell
  have HR := Lib.hid hr
  have HT := Lib.hid ht
  have hrl := hr.lt
  clear hr hc hd ht hrv
  go_enter Tryd.func39, Tryd.ntmps39
  go_wp2_with fail
  exact bodyPost_ret (v := .tuple #[.agg #[.int .i64 2, .int .i64 1, .string ⟨#[]⟩, .slice none 0 0], .bool true]) (by simp [results, Tryd.results39, go_sem]) rfl (PlainR.alloc (pl_leaf HR.out rfl rfl (show (⟨#[]⟩ : ByteArray).size ≤ 140737488355328 by decide)) _)
set_option maxHeartbeats 1000000 in
theorem pl_no : PlainFor (.truth false) := by
  intro w v vb r c deep hv hrv hr hc hd ht
  obtain ⟨rfl, rfl⟩ := hv
  have hc' : c + 1 ≤ 70000 := hc
  have hd' : deep ≤ 70 := hd
  have t1 : ¬ (70000 < (c : Int) + 1) := by omega
  have t2 : ¬ (70 < (deep : Int)) := by omega
  clear hc' hd'
  obtain ⟨k0, k1⟩ := hr.cell
  have HR := Lib.hid hr
  have HT := Lib.hid ht
  have hrl := hr.lt
  clear hr hc hd ht hrv
  go_enter Tryd.func39, Tryd.ntmps39
  go_wp2_with fail
  exact bodyPost_ret (v := .tuple #[.agg #[.int .i64 2, .int .i64 0, .string ⟨#[]⟩, .slice none 0 0], .bool true]) (by simp [results, Tryd.results39, go_sem]) rfl (PlainR.alloc (pl_leaf HR.out rfl rfl (show (⟨#[]⟩ : ByteArray).size ≤ 140737488355328 by decide)) _)
end

section
open Go.RowKit
set_option maxRecDepth 100000
theorem info24 : (Tryd.prog.info? 24).map (fun i => (i.zero, i.size, i.bytes)) = some (some (.agg #[.int .i64 0, .int .i64 0, .string ⟨#[]⟩, .slice none 0 0]), 4, 56) := by kernel_rfl
theorem nodesVs_take : ∀ (l : List VT) (i : Nat) (h : i < l.length), nodesVs (l.take (i + 1)) = nodesVs (l.take i) + nodesV l[i]
  | t :: r, 0, h => by simp [nodesVs]
  | t :: r, i + 1, h => by
    simp only [List.take_succ_cons, nodesVs, List.getElem_cons_succ]
    rw [nodesVs_take r i (by simpa using h)]; omega
theorem nodesVs_le : ∀ (l : List VT) (i : Nat), nodesVs (l.take i) ≤ nodesVs l
  | [], i => by simp
  | t :: r, 0 => by simp [nodesVs]
  | t :: r, i + 1 => by simp only [List.take_succ_cons, nodesVs]; have := nodesVs_le r i; omega
theorem len_le_nodes : ∀ l : List VT, l.length ≤ nodesVs l
  | [] => Nat.le_refl _
  | t :: r => by
    have := len_le_nodes r
    have h1 : 1 ≤ nodesV t := by cases t <;> simp [nodesV]
    simp only [List.length_cons, nodesVs]; omega
theorem depVs_get : ∀ (l : List VT) (i : Nat) (h : i < l.length), 1 + depV l[i] ≤ depVs l
  | t :: r, 0, h => by simp only [depVs, List.getElem_cons_zero]; omega
  | t :: r, i + 1, h => by
    have := depVs_get r i (by simpa using h)
    simp only [depVs, List.getElem_cons_succ]; omega
theorem txtVs_get : ∀ (l : List VT) (i : Nat) (h : i < l.length), txtVs l → txtV l[i]
  | t :: r, 0, h, ht => ht.1
  | t :: r, i + 1, h, ht => txtVs_get r i (by simpa using h) ht.2
theorem plainsOf_snoc : ∀ (l : List VT) (i : Nat) (h : i < l.length), plainsOf (l.take (i + 1)) = plainsOf (l.take i) ++ [plainOf l[i]]
  | t :: r, 0, h => by simp [plainsOf]
  | t :: r, i + 1, h => by
    simp only [List.take_succ_cons, plainsOf, List.getElem_cons_succ, List.cons_append]
    rw [plainsOf_snoc r i (by simpa using h)]
theorem plainsOf_len : ∀ l : List VT, (plainsOf l).length = l.length
  | [] => rfl
  | t :: r => by simp [plainsOf, plainsOf_len r]
theorem four_new (w : World) (a b c d : Value) (t : TypeId) : ∀ j u, [a, b, c, d][j]? = some u → (w.alloc (.cells #[a, b, c, d] t)).cell? ((⟨w.heap.size, 0, none⟩ : Addr).add j) = some u := by
  intro j u hu
  rw [show (⟨w.heap.size, 0, none⟩ : Addr).add j = ⟨w.heap.size, j, none⟩ from by unfold Addr.add; split <;> simp_all]
  rw [cell_of_row _ _ j _ _ _ (heap_alloc_new w _)]
  simpa using hu
theorem own_slice {w : World} {base e size n : Nat} {v : Value} {xs : List Value} (h : w.ownsRow base e size v n xs) : ∃ la lc, v = .slice la n lc := by
  rcases h.2 with ⟨rfl, rfl⟩ | ⟨g, cap, cur, rfl, _⟩
  · exact ⟨none, 0, rfl⟩
  · exact ⟨_, cap, rfl⟩
theorem HasP.form {w : World} {p : PT} {cs : List Value} {bs : List Nat} (h : HasP w p cs bs) : ∃ k n s la ln lc, cs = [.int .i64 k, .int .i64 n, .string s, .slice la ln lc] := by
  cases p with
  | mk k n s l =>
    simp only [HasP] at h
    obtain ⟨h1, h2, la, lc, rfl, h4⟩ := h
    exact ⟨k, n, s, la, _, lc, rfl⟩
theorem KB.cell {r b j : Nat} {w w' : World} {v : Value} (h : KB r w w') (hc : w.cell? ⟨b, j, none⟩ = some v) (hb : b ≠ r) : w'.cell? ⟨b, j, none⟩ = some v := by
  rw [cellOf_heap (h.block b (cell_lt hc) (by simpa using hb))]; exact hc
theorem heapcell {w : World} {b : Nat} {cs : Array Value} {t : TypeId} (h : w.heap[b]? = some (.cells cs t (0, 0))) (j : Nat) : w.cell? ⟨b, j, none⟩ = cs[j]? ∧ w.frozen? ⟨b, j, none⟩ = false := ⟨Lib.cell_of_heap h j, Lib.frozen_of_heap h j⟩
theorem heap_set {w : World} {b j : Nat} {cs : Array Value} {t : TypeId} (h : w.heap[b]? = some (.cells cs t (0, 0))) (v : Value) : (w.setCell ⟨b, j, none⟩ v).heap[b]? = some (.cells (cs.set! j v) t (0, 0)) := by
  have hlt : b < w.heap.size := (Array.getElem?_eq_some_iff.1 h).1
  simp only [World.setCell, Array.getElem?_modify, h]
  simp
theorem heap_set_ne {w : World} {b j g : Nat} (v : Value) (hg : g ≠ b) : (w.setCell ⟨b, j, none⟩ v).heap[g]? = w.heap[g]? := Below.heap_setCell _ _ _ _ (fun e => hg e)
set_option maxHeartbeats 4000000 in
theorem pl_list (l : List VT) (ih : ∀ t ∈ l, PlainFor t) : PlainFor (.list l) := by
  intro w v vb r c deep hv hrv hr hc hd ht
  obtain ⟨sv, vs, bl, rfl, hown, hrep, rfl⟩ := hv
  obtain ⟨la, lc, rfl, hmx, hca⟩ := own_cells hown
  have hc' : c + 1 + nodesVs l ≤ 70000 := by have : c + (1 + nodesVs l) ≤ 70000 := hc; omega
  have hd' : deep + depVs l ≤ 70 := hd
  have hll := len_le_nodes l
  have t1 : ¬ (70000 < (c : Int) + 1) := by omega
  have t2 : ¬ (70 < (deep : Int)) := by omega
  have t3 : l.length ≤ 70000 := by omega
  have HC' := Lib.hid hc'
  have HD' := Lib.hid hd'
  have HLL := Lib.hid t3
  clear hc' hd' hll t3
  obtain ⟨k0, k1⟩ := hr.cell
  have HR := Lib.hid hr
  have HT : Hid (txtVs l) := Lib.hid ht
  have HI := Lib.hid ih
  have HA := Lib.hid hca
  have HP := Lib.hid hrep
  have HV := Lib.hid hrv
  have hrl := hr.lt
  clear hr hc hd ht hrv ih hca hrep
  obtain ⟨i0, hi, hz0, hz1, hz2⟩ := info_parts info24
  have HZ1 := Lib.hid hz1; clear hz1
  have HZ2 := Lib.hid hz2; clear hz2
  have HZ0 := Lib.hid hz0; clear hz0
  have HI0 := Lib.hid hi; clear hi
  go_enter Tryd.func39, Tryd.ntmps39
  go_wp2_with fail
  have hW1 := HR.out.to (c + 1)
  have hW2 : CN r (c + 1) (((w.setCell ⟨r, 0, none⟩ (.int .i64 ((c : Int) + 1))).alloc (.cells #[.int .i64 0, .int .i64 0, .string ⟨#[]⟩, .slice none 0 0] 24)).alloc (.cells #[.int .i64 5, .int .i64 0, .string ⟨#[]⟩, .slice none 0 0] 24)) := by
    have h1 := hW1.heap (Below.heap_alloc (w.setCell ⟨r, 0, none⟩ (.int .i64 ((c + 1 : Nat) : Int))) (.cells #[.int .i64 0, .int .i64 0, .string ⟨#[]⟩, .slice none 0 0] 24) _ hW1.lt)
    exact h1.heap (Below.heap_alloc _ _ _ h1.lt)
  have hK2 : KB r w (((w.setCell ⟨r, 0, none⟩ (.int .i64 ((c : Int) + 1))).alloc (.cells #[.int .i64 0, .int .i64 0, .string ⟨#[]⟩, .slice none 0 0] 24)).alloc (.cells #[.int .i64 5, .int .i64 0, .string ⟨#[]⟩, .slice none 0 0] 24)) :=
    ((KB.set 0 _).trans (KB.of_below (alloc_below _ _))).trans (KB.of_below (alloc_below _ _))
  have hz6 : (((w.setCell ⟨r, 0, none⟩ (.int .i64 ((c : Int) + 1))).alloc (.cells #[.int .i64 0, .int .i64 0, .string ⟨#[]⟩, .slice none 0 0] 24)).alloc (.cells #[.int .i64 5, .int .i64 0, .string ⟨#[]⟩, .slice none 0 0] 24)).heap[w.heap.size]? = some (.cells #[.int .i64 0, .int .i64 0, .string ⟨#[]⟩, .slice none 0 0] 24 (0, 0)) := by
    rw [Below.heap_alloc _ _ _ (by simp [World.setCell])]
    have := heap_alloc_new (w.setCell ⟨r, 0, none⟩ (.int .i64 ((c : Int) + 1))) (.cells #[.int .i64 0, .int .i64 0, .string ⟨#[]⟩, .slice none 0 0] 24)
    simpa [World.setCell] using this
  have hz14 : (((w.setCell ⟨r, 0, none⟩ (.int .i64 ((c : Int) + 1))).alloc (.cells #[.int .i64 0, .int .i64 0, .string ⟨#[]⟩, .slice none 0 0] 24)).alloc (.cells #[.int .i64 5, .int .i64 0, .string ⟨#[]⟩, .slice none 0 0] 24)).heap[w.heap.size + 1]? = some (.cells #[.int .i64 5, .int .i64 0, .string ⟨#[]⟩, .slice none 0 0] 24 (0, 0)) := by
    have := heap_alloc_new ((w.setCell ⟨r, 0, none⟩ (.int .i64 ((c : Int) + 1))).alloc (.cells #[.int .i64 0, .int .i64 0, .string ⟨#[]⟩, .slice none 0 0] 24)) (.cells #[.int .i64 5, .int .i64 0, .string ⟨#[]⟩, .slice none 0 0] 24)
    simpa [World.setCell] using this
  have hsW : (((w.setCell ⟨r, 0, none⟩ (.int .i64 ((c : Int) + 1))).alloc (.cells #[.int .i64 0, .int .i64 0, .string ⟨#[]⟩, .slice none 0 0] 24)).alloc (.cells #[.int .i64 5, .int .i64 0, .string ⟨#[]⟩, .slice none 0 0] 24)).heap.size = w.heap.size + 2 := by simp [World.setCell]
  clear hW1
  generalize (((w.setCell ⟨r, 0, none⟩ (.int .i64 ((c : Int) + 1))).alloc (.cells #[.int .i64 0, .int .i64 0, .string ⟨#[]⟩, .slice none 0 0] 24)).alloc (.cells #[.int .i64 5, .int .i64 0, .string ⟨#[]⟩, .slice none 0 0] 24)) = W at hW2 hK2 hz6 hz14 hsW ⊢
  obtain ⟨R, hR⟩ : ∃ R, R = w.heap.size := ⟨_, rfl⟩
  simp only [← hR] at hz6 hz14 hsW ⊢
  have HRR := Lib.hid hR
  have HRL : Hid (r < R) := Lib.hid (by rw [hR]; exact hrl)
  clear hR hrl k0 k1
  have HSW := Lib.hid hsW
  clear hsW
  have HW2 := Lib.hid hW2
  have HK2 := Lib.hid hK2
  have HZ6 := Lib.hid hz6
  have HZ14 := Lib.hid hz14
  clear hW2 hK2 hz6 hz14
  go_loopw [15] (fun iv wr => ∃ (i : Nat) (lv : Value) (xs : List Value) (bs : List Nat), i ≤ l.length ∧ iv = .int .i64 i ∧ Hid (CN r (c + 1 + nodesVs (l.take i)) wr) ∧ Hid (KB r w wr) ∧
      Hid (wr.heap[R]? = some (.cells #[.int .i64 0, .int .i64 0, .string ⟨#[]⟩, .slice none 0 0] 24 (0, 0))) ∧ Hid (wr.heap[R + 1]? = some (.cells #[.int .i64 5, .int .i64 0, .string ⟨#[]⟩, lv] 24 (0, 0))) ∧
      Hid (wr.ownsRow (R + 2) 24 4 lv i xs) ∧ Hid (HasPs wr (plainsOf (l.take i)) xs bs) ∧ Hid (∀ g ∈ bs, R + 2 ≤ g ∧ lv.ownBlock ≠ some g) ∧ Hid (R + 2 ≤ wr.heap.size))
    (fun iv _ => l.length - (intOf iv).toNat)
  case atStart => exact ⟨0, .slice none 0 0, [], [], by omega, rfl, Lib.hid (by simpa [nodesVs] using HW2.out), HK2, HZ6, HZ14, Lib.hid ⟨rfl, .inl ⟨rfl, rfl⟩⟩, Lib.hid ⟨rfl, rfl⟩, Lib.hid (by simp), Lib.hid (by rw [HSW.out]; omega)⟩
  case round =>
    obtain ⟨i, lv, xs, bs, hil, rfl, hcn, hkb, h6, h14, how, hhas, hbs, hsz⟩ := hrel
    by_cases hlt : i < l.length
    · obtain ⟨g, rfl, hg⟩ := HA.out (by omega)
      obtain ⟨v, vb1, hvi, hrv, hsub⟩ := RepVs.get l vs bl HP.out i hlt
      obtain ⟨ty, u, rfl⟩ := hrv.iface
      have hgr : g ≠ r := fun e => HV.out (by simp [Value.ownBlock, e])
      have hx := KB.cell hkb.out (hg i _ hvi) hgr
      have hrr : RepV wr l[i] (.iface ty u) vb1 := RepV.keep _ _ _ (fun b hb => hkb.out.block b (RepV.lt _ _ _ hrv b hb) (by intro e; simp at e; subst e; exact HV.out (by simp [hsub _ hb]))) hrv
      have hcall : Calls Tryd.prog 39 #[.iface ty u, .pointer (some ⟨r, 0, none⟩), .int .i64 ((deep : Int) + 1)] wr (PlainR r (c + 1 + nodesVs (l.take i)) l[i] wr) := by
        have h1 := nodesVs_take l i hlt
        have h2 := nodesVs_le l (i + 1)
        have h3 := HC'.out
        have h4 := depVs_get l i hlt
        have h5 := HD'.out
        exact HI.out l[i] (List.getElem_mem hlt) wr (.iface ty u) vb1 r _ (deep + 1) hrr (fun hm => HV.out (by simp [hsub _ hm])) hcn.out (by omega) (by omega) (txtVs_get l i hlt HT.out)
      have HCALL := Lib.hid hcall
      have HG := Lib.hid hg
      clear hcall hrr hrv hsub hvi hgr hg
      go_wp2_with fail
      refine HCALL.out.mono ?_
      rintro e w1 ⟨cs, cb, rfl, hh, hge, hcn1, hkb1⟩
      obtain ⟨k1, n1, s1, la1, ln1, lc1, rfl⟩ := hh.form
      have HH := Lib.hid hh
      have HGE := Lib.hid hge
      have HCN := Lib.hid hcn1
      have HKB := Lib.hid hkb1
      have hrR : r ≠ R := by have := HRL.out; omega
      have hrR1 : r ≠ R + 1 := by have := HRL.out; omega
      have hs1 := hsz.out
      have h6' : w1.heap[R]? = some (.cells #[.int .i64 0, .int .i64 0, .string ⟨#[]⟩, .slice none 0 0] 24 (0, 0)) := (hkb1.block R (by omega) (by simp; omega)).trans h6.out
      have h14' : w1.heap[R + 1]? = some (.cells #[.int .i64 5, .int .i64 0, .string ⟨#[]⟩, lv] 24 (0, 0)) := (hkb1.block (R + 1) (by omega) (by simp; omega)).trans h14.out
      have c13 : (w1.alloc (.cells #[.int .i64 k1, .int .i64 n1, .string s1, .slice la1 ln1 lc1] 24)).cell? ⟨R + 1, 3, none⟩ = some lv := (cellOf_heap (Below.heap_alloc _ _ _ (Array.getElem?_eq_some_iff.1 h14').1)).trans (heapcell h14' 3).1
      have H6 := Lib.hid h6'
      have H14 := Lib.hid h14'
      have HOW : Hid (w1.ownsRow (R + 2) 24 4 lv i xs) := ownsRow_keep how.out (fun g hg => hkb1.block g (how.out.lt g hg).2 (by have := (how.out.lt g hg).1; have := HRL.out; simp; omega))
      clear hh hge hcn1 hkb1 hrR hrR1 h6' h14' hs1
      clear t1 t2 hx
      go_wp2_with (at_builtin; refine wpList_append_own_at _ rfl _ _ 22 rfl (R + 2) 24 i0 _ 4 56 Tryd.underlying22 HI0.out HZ0.out HZ1.out HZ2.out rfl (by decide) _ _ _ rfl ((HOW.out.alloc _).alloc _) ⟨w1.heap.size + 1, 0, none⟩ 1 1 [.int .i64 k1, .int .i64 n1, .string s1, .slice la1 ln1 lc1] rfl rfl ?c1 ?c2 ?c3 ?c4 ?c5 ?_)
      case c1 =>
        have h1 := four_new (w1.alloc (.cells #[.int .i64 k1, .int .i64 n1, .string s1, .slice la1 ln1 lc1] 24)) (.int .i64 k1) (.int .i64 n1) (.string s1) (.slice la1 ln1 lc1) 24
        rw [show (w1.alloc (.cells #[.int .i64 k1, .int .i64 n1, .string s1, .slice la1 ln1 lc1] 24)).heap.size = w1.heap.size + 1 from by simp] at h1
        exact h1
      case c2 => intro u hu; simp at hu; rcases hu with rfl | rfl | rfl | rfl <;> rfl
      case c3 => have := HLL.out; unfold maxLen; omega
      case c4 => have := HLL.out; omega
      case c5 => have := hsz.out; have := HKB.out.size; simp; omega
      intro lv' w3 hown3 hgrow _ hblk
      obtain ⟨la', lc', rfl⟩ := own_slice hown3
      have hs3 := hgrow.size
      simp at hs3
      have hlo : ∀ b, lv.ownBlock = some b → R + 2 ≤ b ∧ b < w1.heap.size := fun b hb => HOW.out.lt b hb
      have hold : ∀ b, b < w1.heap.size → lv.ownBlock ≠ some b → w3.heap[b]? = w1.heap[b]? := fun b hb hn =>
        ((hgrow.block b (by simp; omega) (fun e => hn e.symm)).trans (Below.heap_alloc _ _ _ (by simp; omega))).trans (Below.heap_alloc _ _ _ hb)
      have hR1 := hsz.out
      have hR2 := HKB.out.size
      have H14' : Hid (w3.heap[R + 1]? = some (.cells #[.int .i64 5, .int .i64 0, .string ⟨#[]⟩, lv] 24 (0, 0))) := Lib.hid ((hold (R + 1) (by omega) (fun e => by have := (hlo _ e).1; omega)).trans H14.out)
      have H6' : Hid (w3.heap[R]? = some (.cells #[.int .i64 0, .int .i64 0, .string ⟨#[]⟩, .slice none 0 0] 24 (0, 0))) := Lib.hid ((hold R (by omega) (fun e => by have := (hlo _ e).1; omega)).trans H6.out)
      have c33 := (heapcell H14'.out 3).1
      have f33 := (heapcell H14'.out 3).2
      have c33' : w3.cell? ⟨R + 1, 3, none⟩ = some lv := c33
      have HOLD := Lib.hid hold
      have HLO := Lib.hid hlo
      have HGR := Lib.hid hgrow
      have HOW3 := Lib.hid hown3
      have HBLK := Lib.hid hblk
      have HS3 := Lib.hid hs3
      clear hold hlo hgrow hown3 hblk hs3 hR1 hR2 c33 c13
      go_wp2_with fail
      go_roundw
      case rel =>
        have hR1 := hsz.out
        have hR2 := HKB.out.size
        have hrR := HRL.out
        have hRw := HRR.out
        have hs3 := HS3.out
        have hlo := HLO.out
        have hlo' : ∀ b, lv.ownBlock = some b → b < wr.heap.size := fun b hb => (how.out.lt b hb).2
        have hold := HOLD.out
        have hgrow := HGR.out
        have hkb1 := hkb.out.trans HKB.out
        have h4 : ∀ b, b < w1.heap.size → b ≠ R + 1 → lv.ownBlock ≠ some b → (w3.setCell ⟨R + 1, 3, none⟩ (.slice la' (i + 1) lc')).heap[b]? = w1.heap[b]? := fun b hb hb1 hn =>
          (heap_set_ne _ hb1).trans (hold b hb hn)
        have hcn4 : CN r (c + 1 + nodesVs (l.take (i + 1))) (w3.setCell ⟨R + 1, 3, none⟩ (.slice la' (i + 1) lc')) := by
          rw [nodesVs_take l i hlt, ← Nat.add_assoc]
          exact HCN.out.heap (h4 r HCN.out.lt (by omega) (fun e => by have := (hlo _ e).1; omega))
        have hkb4 : KB r w (w3.setCell ⟨R + 1, 3, none⟩ (.slice la' (i + 1) lc')) := by
          refine ⟨hgrow.os.trans hkb1.os, hgrow.tape.trans hkb1.tape, hgrow.output.trans hkb1.output, by have := hkb1.size; simp [World.setCell]; omega, fun b hb hbr => ?_⟩
          rw [h4 b (by have := hkb1.size; omega) (by omega) (fun e => by have := (hlo _ e).1; omega)]
          exact hkb1.block b hb hbr
        have hh4 : HasPs (w3.setCell ⟨R + 1, 3, none⟩ (.slice la' (i + 1) lc')) (plainsOf (l.take (i + 1))) (xs ++ [.int .i64 k1, .int .i64 n1, .string s1, .slice la1 ln1 lc1]) (bs ++ cb) := by
          rw [plainsOf_snoc l i hlt]
          refine HasPs.snoc _ _ _ _ _ _ (HasPs.keep _ _ _ (fun b hb => ?_) hhas.out) (HasP.keep _ _ _ (fun b hb => ?_) HH.out)
          · have h5 := hbs.out b hb
            have h6 := HasPs.lt _ _ _ hhas.out b hb
            rw [h4 b (by omega) (by omega) h5.2]
            exact HKB.out.block b h6 (by simp; omega)
          · have h5 := HGE.out b hb
            have h6 := HasP.lt _ _ _ HH.out b hb
            exact h4 b h6 (by omega) (fun e => by have := hlo' b e; omega)
        refine ⟨i + 1, .slice la' (i + 1) lc', xs ++ [.int .i64 k1, .int .i64 n1, .string s1, .slice la1 ln1 lc1], bs ++ cb, by omega, ?_, Lib.hid hcn4, Lib.hid hkb4, Lib.hid ((heap_set_ne _ (by omega)).trans H6'.out), Lib.hid (heap_set H14'.out _), Lib.hid (ownsRow_keep HOW3.out (fun b hb => heap_set_ne _ (by have := (HOW3.out.lt b hb).1; omega))), Lib.hid hh4, Lib.hid (fun b hb => ?_), Lib.hid (by simp [World.setCell]; omega)⟩
        · have := HLL.out
          go_num
        · rcases List.mem_append.1 hb with hb | hb
          · have h5 := hbs.out b hb
            have h6 := HasPs.lt _ _ _ hhas.out b hb
            refine ⟨h5.1, fun e => ?_⟩
            rcases HBLK.out with h7 | h7
            · exact h5.2 (h7.symm.trans e)
            · rw [h7] at e; simp at e; omega
          · have h5 := HGE.out b hb
            have h6 := HasP.lt _ _ _ HH.out b hb
            refine ⟨by omega, fun e => ?_⟩
            rcases HBLK.out with h7 | h7
            · have := hlo' b (h7.symm.trans e); omega
            · rw [h7] at e; simp at e; omega
      case measure =>
        have := HLL.out
        simp [intOf]; omega
    · obtain rfl : i = l.length := by omega
      obtain ⟨la', lc', rfl⟩ := own_slice how.out
      have hlo : ∀ b, (Value.slice la' l.length lc').ownBlock = some b → R + 2 ≤ b ∧ b < wr.heap.size := fun b hb => how.out.lt b hb
      have p0 := (heapcell h6.out 0)
      have p1 := (heapcell h6.out 1)
      have p2 := (heapcell h6.out 2)
      have p3 := (heapcell h6.out 3)
      have q0 := (heapcell h14.out 0).1
      have q1 := (heapcell h14.out 1).1
      have q2 := (heapcell h14.out 2).1
      have q3 := (heapcell h14.out 3).1
      obtain ⟨p0, f0⟩ := p0
      obtain ⟨p1, f1⟩ := p1
      obtain ⟨p2, f2⟩ := p2
      obtain ⟨p3, f3⟩ := p3
      have HLO := Lib.hid hlo
      clear t1 t2 hlo
      go_wp2_with fail
      refine bodyPost_ret (v := .tuple #[.agg #[.int .i64 5, .int .i64 0, .string ⟨#[]⟩, .slice la' l.length lc'], .bool true]) (by simp [results, Tryd.results39, go_sem, p0, p1, p2, p3]) rfl ?_
      have hR1 := hsz.out
      have hrR := HRL.out
      have hRw := HRR.out
      have hw4 : ∀ b, b ≠ R → ((((wr.setCell ⟨R, 0, none⟩ (.int .i64 5)).setCell ⟨R, 1, none⟩ (.int .i64 0)).setCell ⟨R, 2, none⟩ (.string ⟨#[]⟩)).setCell ⟨R, 3, none⟩ (.slice la' l.length lc')).heap[b]? = wr.heap[b]? := fun b hb => by
        rw [heap_set_ne _ hb, heap_set_ne _ hb, heap_set_ne _ hb, heap_set_ne _ hb]
      have hpl := plainsOf_len l
      have hcn4 : CN r (c + nodesV (.list l)) ((((wr.setCell ⟨R, 0, none⟩ (.int .i64 5)).setCell ⟨R, 1, none⟩ (.int .i64 0)).setCell ⟨R, 2, none⟩ (.string ⟨#[]⟩)).setCell ⟨R, 3, none⟩ (.slice la' l.length lc')) := by
        have h1 := hcn.out
        rw [List.take_length] at h1
        have h2 : c + nodesV (.list l) = c + 1 + nodesVs l := by simp only [nodesV]; omega
        rw [h2]
        exact h1.heap (hw4 r (by omega))
      have hkb4 : KB r w ((((wr.setCell ⟨R, 0, none⟩ (.int .i64 5)).setCell ⟨R, 1, none⟩ (.int .i64 0)).setCell ⟨R, 2, none⟩ (.string ⟨#[]⟩)).setCell ⟨R, 3, none⟩ (.slice la' l.length lc')) :=
        ⟨hkb.out.os, hkb.out.tape, hkb.out.output, by have := hkb.out.size; simpa [World.setCell] using this, fun b hb hbr => (hw4 b (by omega)).trans (hkb.out.block b hb hbr)⟩
      have hh := hhas.out
      rw [List.take_length] at hh
      have hh4 := HasPs.keep (w' := (((wr.setCell ⟨R, 0, none⟩ (.int .i64 5)).setCell ⟨R, 1, none⟩ (.int .i64 0)).setCell ⟨R, 2, none⟩ (.string ⟨#[]⟩)).setCell ⟨R, 3, none⟩ (.slice la' l.length lc')) _ _ _ (fun b hb => hw4 b (by have := (hbs.out b hb).1; omega)) hh
      have how4 := ownsRow_keep (w' := (((wr.setCell ⟨R, 0, none⟩ (.int .i64 5)).setCell ⟨R, 1, none⟩ (.int .i64 0)).setCell ⟨R, 2, none⟩ (.string ⟨#[]⟩)).setCell ⟨R, 3, none⟩ (.slice la' l.length lc')) how.out (fun b hb => hw4 b (by have := (how.out.lt b hb).1; omega))
      have hln := HLL.out
      by_cases hl0 : l = []
      · subst hl0
        obtain ⟨rfl, rfl⟩ := hh
        exact ⟨[.int .i64 5, .int .i64 0, .string ⟨#[]⟩, .slice la' 0 lc'], [], rfl, ⟨by decide, by simp [plainsOf], la', lc', rfl, .inl ⟨rfl, rfl⟩⟩, by simp, hcn4, hkb4⟩
      · have hpos : 0 < l.length := List.length_pos_iff.2 hl0
        rcases how4.2 with ⟨he, _⟩ | ⟨g, cap, cur, he, hbase, _⟩
        · simp only [Value.slice.injEq] at he; omega
        · simp only [Value.slice.injEq, true_and] at he
          obtain ⟨rfl, rfl⟩ := he
          have hcell := how4.cells (g := g) rfl
          refine ⟨[.int .i64 5, .int .i64 0, .string ⟨#[]⟩, .slice (some ⟨g, 0, none⟩) l.length lc'], g :: bs, rfl, ⟨by decide, by rw [hpl]; omega, some ⟨g, 0, none⟩, lc', by rw [hpl], .inr ⟨g, xs, bs, by intro e; have := congrArg List.length e; rw [hpl] at this; simp at this; exact hl0 this, rfl, fun j v hv => ?_, hh4, rfl⟩⟩, fun b hb => ?_, hcn4, hkb4⟩
          · have := hcell j v hv
            rwa [show (⟨g, 0, none⟩ : Addr).add j = ⟨g, j, none⟩ from by unfold Addr.add; split <;> simp_all] at this
          · rcases List.mem_cons.1 hb with rfl | hb
            · omega
            · have := (hbs.out b hb).1; omega
mutual
theorem plain_any : ∀ t : VT, PlainFor t
  | .unit => pl_unit
  | .truth true => pl_yes
  | .truth false => pl_no
  | .int n => pl_int n
  | .text s => pl_text s
  | .list l => pl_list l (plain_anys l)
theorem plain_anys : ∀ l : List VT, ∀ t ∈ l, PlainFor t
  | [], t, h => by simp at h
  | q :: r, t, h => by
    rcases List.mem_cons.1 h with h | h
    · rw [h]; exact plain_any q
    · exact plain_anys r t h
end
end

section
open Go.RowKit
set_option maxRecDepth 100000
def PlainO (t : VT) (w : World) (e : Ending) (w' : World) : Prop := ∃ cs bs, e = .returned (.tuple #[.agg cs.toArray, .bool true]) ∧ HasP w' (plainOf t) cs bs ∧ (∀ g ∈ bs, w.heap.size ≤ g) ∧ Below w.heap.size w w'
set_option maxHeartbeats 4000000 in
theorem plain_call (t : VT) (w : World) (v : Value) (vb : List Nat) (hv : RepV w t v vb) (hn : nodesV t ≤ 70000) (hd : depV t ≤ 70) (ht : txtV t) : Calls Tryd.prog 13 #[v] w (PlainO t w) := by
  have hcall : Calls Tryd.prog 39 #[v, .pointer (some ⟨w.heap.size + 1, 0, none⟩), .int .i64 0] ((w.alloc (.cells #[.int .i64 0, .int .i64 0, .string ⟨#[]⟩, .slice none 0 0] 24)).alloc (.cells #[.int .i64 0] 3)) (PlainR (w.heap.size + 1) 0 t ((w.alloc (.cells #[.int .i64 0, .int .i64 0, .string ⟨#[]⟩, .slice none 0 0] 24)).alloc (.cells #[.int .i64 0] 3))) := by
    refine plain_any t _ v vb (w.heap.size + 1) 0 0 (RepV.keep _ _ _ (fun g hg => ?_) hv) (fun hm => ?_) ?_ (by omega) (by omega) ht
    · have := RepV.lt _ _ _ hv g hg
      rw [Below.heap_alloc _ _ _ (by simp; omega), Below.heap_alloc _ _ _ this]
    · have := RepV.lt _ _ _ hv _ hm; omega
    · have := heap_alloc_new (w.alloc (.cells #[.int .i64 0, .int .i64 0, .string ⟨#[]⟩, .slice none 0 0] 24)) (.cells #[.int .i64 0] 3)
      unfold CN
      simpa using this
  have HC := Lib.hid hcall
  clear hcall hv hn hd ht
  go_enter Tryd.func13, Tryd.ntmps13
  go_wp2_with fail
  refine HC.out.mono ?_
  rintro e w1 ⟨cs, bs, rfl, hh, hge, hcn, hkb⟩
  have h2 : w1.heap[w.heap.size]? = some (.cells #[.int .i64 0, .int .i64 0, .string ⟨#[]⟩, .slice none 0 0] 24 (0, 0)) := by
    rw [hkb.block w.heap.size (by simp; omega) (by simp), Below.heap_alloc _ _ _ (by simp)]
    exact heap_alloc_new w _
  have hB : Below w.heap.size w w1 := ((alloc_below w _).alloc (by simp) _).trans (hkb.below (by omega) (by simp; omega))
  obtain ⟨k1, n1, s1, la1, ln1, lc1, rfl⟩ := hh.form
  have HH := Lib.hid hh
  have HGE := Lib.hid hge
  have HB := Lib.hid hB
  obtain ⟨N, hN⟩ : ∃ N, N = w.heap.size := ⟨_, rfl⟩
  rw [← hN] at h2 ⊢
  have HN := Lib.hid hN
  obtain ⟨p0, f0⟩ := (heapcell h2 0)
  obtain ⟨p1, f1⟩ := (heapcell h2 1)
  obtain ⟨p2, f2⟩ := (heapcell h2 2)
  obtain ⟨p3, f3⟩ := (heapcell h2 3)
  clear hh hge hcn hkb hB hN h2
  go_wp2_with fail
  refine bodyPost_ret (v := .tuple #[.agg #[.int .i64 k1, .int .i64 n1, .string s1, .slice la1 ln1 lc1], .bool true]) (by simp [results, Tryd.results13, go_sem, p0, p1, p2, p3]) rfl ?_
  have hN := HN.out
  have hge := HGE.out
  simp at hge
  have hw4 : ∀ b, b ≠ N → ((((w1.setCell ⟨N, 0, none⟩ (.int .i64 k1)).setCell ⟨N, 1, none⟩ (.int .i64 n1)).setCell ⟨N, 2, none⟩ (.string s1)).setCell ⟨N, 3, none⟩ (.slice la1 ln1 lc1)).heap[b]? = w1.heap[b]? := fun b hb => by
    rw [heap_set_ne _ hb, heap_set_ne _ hb, heap_set_ne _ hb, heap_set_ne _ hb]
  have hB := HB.out
  exact ⟨[.int .i64 k1, .int .i64 n1, .string s1, .slice la1 ln1 lc1], bs, rfl, HasP.keep _ _ _ (fun b hb => hw4 b (by have := hge b hb; omega)) HH.out, fun b hb => by have := hge b hb; omega,
    ⟨hB.os, hB.tape, hB.output, by have := hB.size; simpa [World.setCell] using this, fun b hb => (hw4 b (by omega)).trans (hB.block b hb)⟩⟩
set_option maxHeartbeats 4000000 in
/-- 'Is': the value stands for this plain one. -/
theorem is_any (t : VT) (p : PT) (w : World) (v u : Value) (vb : List Nat) (hv : RepV w t v vb) (hp : plainOf t = p) (hu : ArgP w p u) (hn : nodesV t ≤ 70000) (hd : depV t ≤ 70) (ht : txtV t) : Calls Tryd.prog 11 #[v, u] w (RetB w (.bool true)) := by
  subst hp
  have g' := hu
  cases hpt : plainOf t with
  | mk k n s l =>
  rw [hpt] at g'
  obtain ⟨_, _, la, lc, rfl, _⟩ := g'
  have HV := Lib.hid (plain_call t (w.alloc (.cells #[.int .i64 k, .int .i64 n, .string s, .slice la l.length lc] 24)) v vb (RepV.keep _ _ _ (fun g hg => Below.heap_alloc _ _ _ (RepV.lt _ _ _ hv g hg)) hv) hn hd ht)
  have HU := Lib.hid hu
  have HP := Lib.hid hpt
  clear hv hu hn hd ht hpt
  go_enter Tryd.func11, Tryd.ntmps11
  go_wp2_with fail
  refine HV.out.mono ?_
  rintro e w1 ⟨cs, bs, rfl, hh, hge, hB⟩
  obtain ⟨k1, n1, s1, la1, ln1, lc1, rfl⟩ := hh.form
  have h2 : w1.heap[w.heap.size]? = some (.cells #[.int .i64 k, .int .i64 n, .string s, .slice la l.length lc] 24 (0, 0)) := by
    rw [hB.block w.heap.size (by simp)]
    exact heap_alloc_new w _
  have HH := Lib.hid hh.arg
  have HB := Lib.hid ((alloc_below w (.cells #[.int .i64 k, .int .i64 n, .string s, .slice la l.length lc] 24)).trans (hB.mono (by simp)))
  have HS := hB.size
  simp at HS
  obtain ⟨N, hN⟩ : ∃ N, N = w.heap.size := ⟨_, rfl⟩
  rw [← hN] at h2 HS ⊢
  have HN := Lib.hid hN
  have e0 := cellOf_heap (j := 0) (Below.heap_alloc w1 (.cells #[.int .i64 k1, .int .i64 n1, .string s1, .slice la1 ln1 lc1] 24) N (by omega))
  have e1 := cellOf_heap (j := 1) (Below.heap_alloc w1 (.cells #[.int .i64 k1, .int .i64 n1, .string s1, .slice la1 ln1 lc1] 24) N (by omega))
  have e2 := cellOf_heap (j := 2) (Below.heap_alloc w1 (.cells #[.int .i64 k1, .int .i64 n1, .string s1, .slice la1 ln1 lc1] 24) N (by omega))
  have e3 := cellOf_heap (j := 3) (Below.heap_alloc w1 (.cells #[.int .i64 k1, .int .i64 n1, .string s1, .slice la1 ln1 lc1] 24) N (by omega))
  rw [(heapcell h2 0).1] at e0
  rw [(heapcell h2 1).1] at e1
  rw [(heapcell h2 2).1] at e2
  rw [(heapcell h2 3).1] at e3
  clear hh hge hB hN h2
  go_wp2_with fail
  have hB := HB.out
  refine (eq_any (plainOf t) _ _ _ (HH.out.below (alloc_below _ _)) ((HU.out.below hB).below (alloc_below _ _))).mono ?_
  rintro e w2 ⟨rfl, hb⟩
  go_wp2_with fail
  go_ret
  exact ⟨rfl, ((hB.alloc hB.size _).trans (hb.mono (by have := hB.size; simp; omega)))⟩
end

section
open Go.RowKit
set_option maxRecDepth 100000
theorem bytes_nil {s : ByteArray} (h : s.toList = []) : s = ⟨#[]⟩ := by
  have h1 : s.data.toList = [] := by
    have := ByteArray.toList_eq s
    rw [← this]; exact h
  obtain ⟨d⟩ := s
  obtain ⟨l⟩ := d
  simp at h1
  subst h1
  rfl
mutual
theorem may_plain : ∀ (p : PT) (left deep : Int), left ≤ 65536 → deep ≤ 64 → (meas p left deep).2 = true →
    plainOf (valOf p) = p ∧ (nodesV (valOf p) : Int) ≤ (meas p left deep).1 ∧ deep + depV (valOf p) ≤ 64 ∧ txtV (valOf p)
  | .mk k n s l, left, deep, hl, hd, h => by
    unfold meas at h ⊢
    split at h
    · simp at h
    · rename_i h0
      rw [if_neg h0]
      have hs : k ≠ 4 → s = ⟨#[]⟩ := fun hk => bytes_nil (Classical.byContradiction fun hn => h0 (.inr (.inl ⟨hk, hn⟩)))
      have hll : k ≠ 5 → l = [] := fun hk => List.length_eq_zero_iff.1 (by have := fun hn : 0 < l.length => h0 (.inr (.inr ⟨hk, hn⟩)); omega)
      split at h
      · rename_i h1
        rw [if_pos h1]
        simp only [decide_eq_true_eq] at h
        subst h; subst h1
        rw [hs (by decide), hll (by decide)]
        simp [valOf, plainOf, nodesV, depV, txtV]; omega
      · rename_i h1
        rw [if_neg h1]
        split at h
        · rename_i h2
          rw [if_pos h2]
          simp only [decide_eq_true_eq] at h
          subst h2
          rw [hs (by decide), hll (by decide)]
          refine ⟨?_, by simp [valOf, nodesV], by simp [valOf, depV]; omega, by simp [valOf, txtV]⟩
          rcases h with h | h <;> subst h <;> simp [valOf, plainOf]
        · rename_i h2
          rw [if_neg h2]
          split at h
          · rename_i h3
            rw [if_pos h3]
            subst h3
            rw [hs (by decide), hll (by decide)]
            simp [valOf, plainOf, nodesV, depV, txtV]; omega
          · rename_i h3
            rw [if_neg h3]
            split at h
            · rename_i h4
              rw [if_pos h4]
              simp only [decide_eq_true_eq] at h
              subst h4
              rw [hll (by decide)]
              obtain ⟨rfl, hsz⟩ := h
              refine ⟨by simp [valOf, plainOf], by simp [valOf, nodesV]; omega, by simp [valOf, depV]; omega, ?_⟩
              simp [valOf, txtV]; omega
            · rename_i h4
              rw [if_neg h4]
              split at h
              · rename_i h5
                rw [if_pos h5]
                split at h
                · simp at h
                · rename_i h6
                  rw [if_neg h6]
                  subst h5
                  rw [hs (by decide)]
                  have hn : n = 0 := Classical.byContradiction fun hn => h6 (.inl hn)
                  have hdd : deep ≠ 64 := fun e => h6 (.inr e)
                  subst hn
                  obtain ⟨e1, e2, e3, e4⟩ := may_plains l left (deep + 1) 1 (by omega) hl (by omega) h
                  refine ⟨by simp [valOf, plainOf, e1], by simp [valOf, nodesV]; omega, by simp [valOf, depV]; omega, by simp [valOf, txtV, e4]⟩
              · simp at h
theorem may_plains : ∀ (l : List PT) (left deep n : Int), 0 ≤ n → left ≤ 65536 → deep ≤ 64 → (measL l left deep n).2 = true →
    plainsOf (valsOf l) = l ∧ n + (nodesVs (valsOf l) : Int) ≤ (measL l left deep n).1 ∧ deep + depVs (valsOf l) ≤ 65 ∧ txtVs (valsOf l)
  | [], left, deep, n, hn, hl, hd, h => by simp [measL, valsOf, plainsOf, nodesVs, depVs, txtVs]; omega
  | p :: r, left, deep, n, hn, hl, hd, h => by
    simp only [measL] at h ⊢
    split at h
    · rename_i hp
      rw [if_pos hp]
      obtain ⟨a1, a2, a3, a4⟩ := may_plain p (left - n) deep (by omega) hd hp
      obtain ⟨b1, b2, b3, b4⟩ := may_plains r left deep _ (by omega) hl hd h
      simp only [valsOf, plainsOf, nodesVs, depVs, txtVs, a1, b1]
      refine ⟨trivial, by omega, by omega, a4, b4⟩
    · simp at h
end
mutual
theorem meas_indep : ∀ (p : PT) (left deep left' deep' : Int), left ≤ left' → deep' ≤ deep → deep ≤ 64 → (meas p left deep).2 = true → meas p left' deep' = meas p left deep
  | .mk k n s l, left, deep, left', deep', hl, hd, h64, h => by
    unfold meas at h ⊢
    split at h
    · simp at h
    · rename_i h0
      rw [if_neg h0, if_neg (fun h1 => h0 (by rcases h1 with h1 | h1; exact .inl (by omega); exact .inr h1))]
      split at h
      · rename_i h1; rw [if_pos h1, if_pos h1]
      · rename_i h1
        rw [if_neg h1, if_neg h1]
        split at h
        · rename_i h2; rw [if_pos h2, if_pos h2]
        · rename_i h2
          rw [if_neg h2, if_neg h2]
          split at h
          · rename_i h3; rw [if_pos h3, if_pos h3]
          · rename_i h3
            rw [if_neg h3, if_neg h3]
            split at h
            · rename_i h4
              rw [if_pos h4, if_pos h4]
              simp only [decide_eq_true_eq] at h
              obtain ⟨h5, h6⟩ := h
              have h7 : (s.size : Int) < left' := by omega
              simp [h5, h6, h7]
            · rename_i h4
              rw [if_neg h4, if_neg h4]
              split at h
              · rename_i h5
                rw [if_pos h5, if_pos h5]
                split at h
                · simp at h
                · rename_i h6
                  have h7 : ¬ (n ≠ 0 ∨ deep' = 64) := fun e => h6 (by rcases e with e | e; exact .inl e; exact .inr (by omega))
                  have h8 : deep ≠ 64 := fun e => h6 (.inr e)
                  rw [if_neg h6, if_neg h7]
                  exact measL_indep l left (deep + 1) left' (deep' + 1) 1 hl (by omega) (by omega) h
              · simp at h
theorem measL_indep : ∀ (l : List PT) (left deep left' deep' n : Int), left ≤ left' → deep' ≤ deep → deep ≤ 64 → (measL l left deep n).2 = true → measL l left' deep' n = measL l left deep n
  | [], left, deep, left', deep', n, hl, hd, h64, h => rfl
  | p :: r, left, deep, left', deep', n, hl, hd, h64, h => by
    simp only [measL] at h ⊢
    split at h
    · rename_i hp
      have h1 := meas_indep p (left - n) deep (left' - n) deep' (by omega) hd h64 hp
      rw [h1, if_pos hp, if_pos hp]
      exact measL_indep r left deep left' deep' _ hl hd h64 h
    · simp at h
end
def sumS : List PT → Int
  | [] => 0
  | p :: r => sizeP p + sumS r
theorem measL_sum : ∀ (l : List PT) (left deep n : Int), 0 ≤ n → left ≤ 65536 → 0 ≤ deep → deep ≤ 64 → (measL l left deep n).2 = true → (measL l left deep n).1 = n + sumS l ∧ ∀ p ∈ l, mayP p = true
  | [], left, deep, n, hn, hl, hd, hd', h => by simp [measL, sumS]
  | p :: r, left, deep, n, hn, hl, hd, hd', h => by
    simp only [measL] at h ⊢
    split at h
    · rename_i hp
      rw [if_pos hp]
      have h1 := meas_indep p (left - n) deep 65536 0 (by omega) hd hd' hp
      have h2 := meas_bd p (left - n) deep hp
      have h3 : mayP p = true := by unfold mayP; rw [h1]; exact hp
      have h4 : sizeP p = (meas p (left - n) deep).1 := by unfold sizeP; rw [if_pos h3, h1]
      obtain ⟨b1, b2⟩ := measL_sum r left deep _ (by omega) hl hd hd' h
      refine ⟨?_, fun q hq => ?_⟩
      · rw [b1]; simp only [sumS, h4]; omega
      · rcases List.mem_cons.1 hq with e | e
        · rw [e]; exact h3
        · exact b2 q e
    · simp at h
theorem sizeP_pos (p : PT) (h : mayP p = true) : 1 ≤ sizeP p ∧ sizeP p ≤ 65536 := by
  unfold sizeP
  rw [if_pos h]
  exact meas_bd p 65536 0 h
theorem sizeP_zero (p : PT) (h : mayP p = false) : sizeP p = 0 := by
  unfold sizeP
  rw [h]; rfl
theorem sumS_nonneg : ∀ l : List PT, 0 ≤ sumS l
  | [] => Int.le_refl _
  | p :: r => by
    have := sumS_nonneg r
    simp only [sumS]
    cases h : mayP p
    · rw [sizeP_zero p h]; omega
    · have := sizeP_pos p h; omega
/-- A list that may be: its size. -/
theorem list_size (l : List PT) (h : mayP (.mk 5 0 ⟨#[]⟩ l) = true) : sizeP (.mk 5 0 ⟨#[]⟩ l) = 1 + sumS l ∧ 1 + sumS l ≤ 65536 ∧ ∀ p ∈ l, mayP p = true := by
  have h1 := (sizeP_pos _ h).2
  unfold sizeP at h1 ⊢
  rw [if_pos h] at h1 ⊢
  unfold mayP at h
  unfold meas at h h1 ⊢
  simp only [show ((65536 : Int) < 1) = False from by simp, show (⟨#[]⟩ : ByteArray).toList = [] from by simp [ByteArray.toList_eq], ne_eq, not_true_eq_false, and_false, or_false, false_and, if_false, show ((5 : Int) = 1) = False from by simp, show ((5 : Int) = 2) = False from by simp, show ((5 : Int) = 3) = False from by simp, show ((5 : Int) = 4) = False from by simp, show ((0 : Int) = 64) = False from by simp, if_true] at h h1 ⊢
  obtain ⟨e1, e2⟩ := measL_sum l 65536 (0 + 1) 1 (by omega) (by omega) (by omega) (by omega) h
  rw [e1] at h1
  exact ⟨e1, h1, e2⟩
def accS : List PT → Int → Int
  | [], n => n
  | p :: r, n => accS r (min (n + sizeP p) 1099511627776)
theorem accS_eq : ∀ (l : List PT) (n : Int), n + sumS l ≤ 65536 → accS l n = n + sumS l
  | [], n, h => by simp [accS, sumS]
  | p :: r, n, h => by
    simp only [accS, sumS] at h ⊢
    have h1 := sumS_nonneg r
    have h2 : min (n + sizeP p) 1099511627776 = n + sizeP p := by omega
    rw [h2, accS_eq r _ (by omega)]; omega
end

section
open Go.RowKit
set_option maxRecDepth 100000
/-- A slice of plain values. -/
def SlP (w : World) (l : List PT) (v : Value) : Prop := l.length ≤ 4398046511104 ∧ ∃ la lc, v = .slice la l.length lc ∧ (l ≠ [] → ∃ b' o', la = some ⟨b', o', none⟩ ∧ InPs w b' o' l)
theorem SlP.below {w w' : World} (hb : Below w.heap.size w w') {l : List PT} {v : Value} (h : SlP w l v) : SlP w' l v := by
  obtain ⟨h2, la, lc, rfl, h4⟩ := h
  refine ⟨h2, la, lc, rfl, fun hl => ?_⟩
  obtain ⟨b', o', e, hin⟩ := h4 hl
  exact ⟨b', o', e, InPs.below hb _ _ _ hin⟩
theorem SlP.arg {w : World} {l : List PT} {la : Option Addr} {ln lc : Nat} (h : SlP w l (.slice la ln lc)) : ArgP w (.mk 5 0 ⟨#[]⟩ l) (.agg #[.int .i64 5, .int .i64 0, .string ⟨#[]⟩, .slice la ln lc]) := by
  obtain ⟨h2, la', lc', e, h4⟩ := h
  simp only [Value.slice.injEq] at e
  obtain ⟨rfl, rfl, rfl⟩ := e
  exact ⟨by decide, h2, la, lc, rfl, h4⟩
def allMay (l : List PT) : Bool := l.all mayP
theorem allMay_take {l : List PT} {i : Nat} (h : i < l.length) (ha : allMay (l.take i) = true) (hm : mayP l[i] = true) : allMay (l.take (i + 1)) = true := by
  unfold allMay at *
  rw [List.take_succ_eq_append_getElem h, List.all_append, ha]
  simp [hm]
theorem allMay_no {l : List PT} {i : Nat} (h : i < l.length) (hm : mayP l[i] = false) : allMay l = false := by
  unfold allMay
  rw [List.all_eq_false]
  exact ⟨l[i], List.getElem_mem h, by simp [hm]⟩
def JoinR (l : List PT) (w : World) (e : Ending) (w' : World) : Prop :=
  (allMay l = false → NilE w 1 e w') ∧ (allMay l = true → mayP (.mk 5 0 ⟨#[]⟩ l) = false → NilE w 2 e w') ∧ (mayP (.mk 5 0 ⟨#[]⟩ l) = true → NewE w (valOf (.mk 5 0 ⟨#[]⟩ l)) 0 e w')
theorem may_all {l : List PT} (h : mayP (.mk 5 0 ⟨#[]⟩ l) = true) : allMay l = true := by
  unfold allMay
  rw [List.all_eq_true]
  exact (list_size l h).2.2
set_option maxHeartbeats 4000000 in
theorem join_any (l : List PT) (w : World) (v : Value) (hv : SlP w l v) : Calls Tryd.prog 17 #[v] w (JoinR l w) := by
  have g := hv
  obtain ⟨hln, la, lc, rfl, hla⟩ := g
  have HV := Lib.hid hv
  have HA := Lib.hid hla
  clear hv hla
  go_enter Tryd.func17, Tryd.ntmps17
  go_wp2_with fail
  go_loopw [9] (fun iv wr => ∃ (i : Nat), i ≤ l.length ∧ iv = .int .i64 i ∧ Hid (Below w.heap.size w wr) ∧ Hid (allMay (l.take i) = true))
    (fun i _ => l.length - (intOf i).toNat)
  case atStart => exact ⟨0, by omega, rfl, Lib.hid (Below.refl _ _), Lib.hid rfl⟩
  case round =>
    obtain ⟨i, hi, rfl, hB, hall⟩ := hrel
    by_cases hlt : i < l.length
    · obtain ⟨b', o', rfl, hin⟩ := HA.out (by intro h; subst h; simp at hlt)
      have hp := InPs.get l b' o' i hlt (InPs.below hB.out _ _ _ hin)
      rw [Nat.mul_comm] at hp
      obtain ⟨k1, n1, s1, la1, lc1, l1, e1, ⟨x0, x1, x2, x3⟩, ha1⟩ := arg_of_in hp
      have HX := Lib.hid ha1
      clear hp hin ha1 e1
      go_wp2_with fail
      refine (may_any l[i] _ _ (HX.out.below (alloc_below _ _))).mono ?_
      rintro e w1 ⟨rfl, hb1⟩
      have HB1 := Lib.hid ((hB.out.alloc hB.out.size _).trans (hb1.mono (by have := hB.out.size; simp; omega)))
      clear hb1
      cases hm : mayP l[i]
      · have HN := Lib.hid (allMay_no hlt hm)
        clear hm
        go_wp2_with fail
        go_ret2
        exact ⟨fun _ => ⟨rfl, HB1.out⟩, fun h => by rw [HN.out] at h; simp at h, fun h => by have := may_all h; rw [HN.out] at this; simp at this⟩
      · have HN := Lib.hid (allMay_take hlt hall.out hm)
        clear hm
        go_wp2_with fail
        go_roundw
        case rel => exact ⟨i + 1, by omega, by go_num, HB1, HN⟩
        case measure => simp [intOf]; omega
    · obtain rfl : i = l.length := by omega
      have HAL := Lib.hid (show allMay l = true by have := hall.out; rwa [List.take_length] at this)
      have HW := Lib.hid (HV.out.below hB.out).arg
      have hc0 : CellsP (wr.alloc (.cells #[.int .i64 5, .int .i64 0, .string ⟨#[]⟩, .slice la l.length lc] 24)) wr.heap.size 0 5 0 ⟨#[]⟩ la l.length lc := cells_new wr _ _ _ _ _
      have HC := Lib.hid hc0
      clear hc0
      go_wp2_with fail
      refine (may_any _ _ _ (HW.out.below (alloc_below _ _))).mono ?_
      rintro e w1 ⟨rfl, hb1⟩
      have HB1 := Lib.hid ((hB.out.alloc hB.out.size _).trans (hb1.mono (by have := hB.out.size; simp; omega)))
      have H1 := Lib.hid (arg_box HW.out ((alloc_below wr _).trans (hb1.mono (by simp))) (HC.out.below hb1))
      clear hb1
      cases hm : mayP (.mk 5 0 ⟨#[]⟩ l)
      · have HM := Lib.hid hm
        clear hm
        go_wp2_with fail
        go_ret2
        exact ⟨fun h => by rw [HAL.out] at h; simp at h, fun _ _ => ⟨rfl, HB1.out⟩, fun h => by rw [HM.out] at h; simp at h⟩
      · have HM := Lib.hid hm
        clear hm
        go_wp2_with fail
        refine (value_any _ _ _ _ H1.out).mono ?_
        rintro e w2 ⟨x, bs, rfl, hx, hnd, hge, hb2⟩
        have HX := Lib.hid hx
        have HN := Lib.hid hnd
        have HG := Lib.hid hge
        clear hx hnd hge
        go_wp2_with fail
        go_ret2
        exact ⟨fun h => by rw [HAL.out] at h; simp at h, fun _ h => by rw [HM.out] at h; simp at h, fun _ => ⟨_, bs, rfl, HX.out, HN.out, fun g hg => Nat.le_trans HB1.out.size (HG.out g hg), HB1.out.trans (hb2.mono HB1.out.size)⟩⟩
end
end Go.Proofs.YtkpnnhebfaggeaaDoor
