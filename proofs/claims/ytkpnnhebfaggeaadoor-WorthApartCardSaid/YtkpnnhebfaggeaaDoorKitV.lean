/-
  What the law of fresh lists carries.
  Conditions: none.
-/
import Derived.Test.YtkpnnhebfaggeaaDoorKitU
import Derived.Test.YtkpnnhebfaggeaaDoorKitR
import Derived.Test.YtkpnnhebfaggeaaDoorKitP
namespace Go.Proofs.YtkpnnhebfaggeaaDoor
section
open Go.RowKit
set_option maxRecDepth 100000
mutual
theorem InP.old {w w' : World} (hk : ∀ g, g < w.heap.size → w'.heap[g]? = w.heap[g]?) : ∀ (p : PT) (b o : Nat), InP w b o p → InP w' b o p
  | .mk k n s l, b, o, h => by
    simp only [InP] at h ⊢
    obtain ⟨h1, h2, la, lc, h3, h4⟩ := h
    have hlt := cell_lt h3.1
    have e : ∀ j, w'.cell? ⟨b, j, none⟩ = w.cell? ⟨b, j, none⟩ := fun j => cellOf_heap (hk b hlt)
    refine ⟨h1, h2, la, lc, ?_, fun hl => ?_⟩
    · unfold CellsP at *
      rw [e, e, e, e]; exact h3
    obtain ⟨b', o', h5, h6⟩ := h4 hl
    exact ⟨b', o', h5, InPs.old hk l b' o' h6⟩
theorem InPs.old {w w' : World} (hk : ∀ g, g < w.heap.size → w'.heap[g]? = w.heap[g]?) : ∀ (l : List PT) (b o : Nat), InPs w b o l → InPs w' b o l
  | [], b, o, h => trivial
  | p :: r, b, o, h => by
    simp only [InPs] at h ⊢
    exact ⟨InP.old hk p b o h.1, InPs.old hk r b (o + 4) h.2⟩
end
theorem CsP.old {w w' : World} (hk : ∀ g, g < w.heap.size → w'.heap[g]? = w.heap[g]?) {p : PT} {cs : List Value} (h : CsP w p cs) : CsP w' p cs := by
  cases p with
  | mk k n s l =>
    obtain ⟨h1, h2, la, lc, h3, h4⟩ := h
    refine ⟨h1, h2, la, lc, h3, fun hl => ?_⟩
    obtain ⟨b', o', h5, h6⟩ := h4 hl
    exact ⟨b', o', h5, InPs.old hk l b' o' h6⟩
theorem CsP.form {w : World} {p : PT} {cs : List Value} (h : CsP w p cs) : ∃ k n s la ln lc, cs = [.int .i64 k, .int .i64 n, .string s, .slice la ln lc] := by
  cases p with
  | mk k n s l =>
    obtain ⟨h1, h2, la, lc, h3, h4⟩ := h
    exact ⟨k, n, s, la, _, lc, h3⟩
theorem CsP.arg {w : World} {p : PT} {cs : List Value} (h : CsP w p cs) : ArgP w p (.agg cs.toArray) := by
  cases p with
  | mk k n s l =>
    obtain ⟨h1, h2, la, lc, rfl, h4⟩ := h
    exact ⟨h1, h2, la, lc, rfl, h4⟩
theorem CsP.inP {w : World} {p : PT} {cs : List Value} {b o : Nat} (h : CsP w p cs) (hc : ∀ j v, cs[j]? = some v → w.cell? ⟨b, o + j, none⟩ = some v) : InP w b o p := by
  cases p with
  | mk k n s l =>
    obtain ⟨h1, h2, la, lc, rfl, h4⟩ := h
    exact ⟨h1, h2, la, lc, ⟨hc 0 _ rfl, hc 1 _ rfl, hc 2 _ rfl, hc 3 _ rfl⟩, h4⟩
/-- What is wanted: a plain value's cells, whose lists stand as long as the old memory and these blocks do. -/
def WantP (N : Nat) (w : World) (p : PT) (cs : List Value) (b : List Nat) : Prop := (∀ w' : World, (∀ g, g < N ∨ g ∈ b → w'.heap[g]? = w.heap[g]?) → CsP w' p cs) ∧ ∀ g ∈ b, g < w.heap.size
def WantPs (N : Nat) (w : World) : List PT → List Value → List Nat → Prop
  | [], xs, bs => xs = [] ∧ bs = []
  | p :: r, xs, bs => ∃ cs xr b br, xs = cs ++ xr ∧ bs = b ++ br ∧ cs.length = 4 ∧ WantP N w p cs b ∧ WantPs N w r xr br
theorem WantP.keep {N : Nat} {w w' : World} {p : PT} {cs : List Value} {b : List Nat} (h : WantP N w p cs b) (hs : w.heap.size ≤ w'.heap.size) (hk : ∀ g, g < N ∨ g ∈ b → w'.heap[g]? = w.heap[g]?) : WantP N w' p cs b :=
  ⟨fun w2 h2 => h.1 w2 (fun g hg => (h2 g hg).trans (hk g hg)), fun g hg => Nat.lt_of_lt_of_le (h.2 g hg) hs⟩
theorem WantPs.keep {N : Nat} {w w' : World} (hs : w.heap.size ≤ w'.heap.size) : ∀ (l : List PT) (xs : List Value) (bs : List Nat), (∀ g, g < N ∨ g ∈ bs → w'.heap[g]? = w.heap[g]?) → WantPs N w l xs bs → WantPs N w' l xs bs
  | [], xs, bs, hk, h => h
  | p :: r, xs, bs, hk, h => by
    obtain ⟨cs, xr, b, br, rfl, rfl, h0, h1, h2⟩ := h
    exact ⟨cs, xr, b, br, rfl, rfl, h0, h1.keep hs (fun g hg => hk g (hg.imp id (fun hm => List.mem_append_left _ hm))), WantPs.keep hs r xr br (fun g hg => hk g (hg.imp id (fun hm => List.mem_append_right _ hm))) h2⟩
theorem WantPs.lt {N : Nat} {w : World} : ∀ (l : List PT) (xs : List Value) (bs : List Nat), WantPs N w l xs bs → ∀ g ∈ bs, g < w.heap.size
  | [], xs, bs, h, g, hg => by rw [h.2] at hg; simp at hg
  | p :: r, xs, bs, h, g, hg => by
    obtain ⟨cs, xr, b, br, rfl, rfl, h0, h1, h2⟩ := h
    rcases List.mem_append.1 hg with hg | hg
    · exact h1.2 g hg
    · exact WantPs.lt r xr br h2 g hg
theorem WantPs.snoc {N : Nat} {w : World} : ∀ (l : List PT) (xs : List Value) (bs : List Nat) (p : PT) (cs : List Value) (b : List Nat), WantPs N w l xs bs → cs.length = 4 → WantP N w p cs b → WantPs N w (l ++ [p]) (xs ++ cs) (bs ++ b)
  | [], xs, bs, p, cs, b, h, h0, hp => by
    obtain ⟨rfl, rfl⟩ := h
    exact ⟨cs, [], b, [], by simp, by simp, h0, hp, rfl, rfl⟩
  | q :: r, xs, bs, p, cs, b, h, h0, hp => by
    obtain ⟨cs', xr, b', br, rfl, rfl, g0, h1, h2⟩ := h
    exact ⟨cs', xr ++ cs, b', br ++ b, by simp, by simp, g0, h1, WantPs.snoc r xr br p cs b h2 h0 hp⟩
theorem WantPs.get {N : Nat} {w : World} : ∀ (l : List PT) (xs : List Value) (bs : List Nat), WantPs N w l xs bs → ∀ i (h : i < l.length), ∃ k n s la ln lc, CsP w l[i] [.int .i64 k, .int .i64 n, .string s, .slice la ln lc] ∧
    xs[i * 4]? = some (.int .i64 k) ∧ xs[i * 4 + 1]? = some (.int .i64 n) ∧ xs[i * 4 + 2]? = some (.string s) ∧ xs[i * 4 + 3]? = some (.slice la ln lc)
  | p :: r, xs, bs, h, 0, hi => by
    obtain ⟨cs, xr, b, br, rfl, rfl, h0, h1, h2⟩ := h
    have hc := h1.1 w (fun _ _ => rfl)
    obtain ⟨k, n, s, la, ln, lc, rfl⟩ := hc.form
    exact ⟨k, n, s, la, ln, lc, hc, by simp, by simp, by simp, by simp⟩
  | p :: r, xs, bs, h, i + 1, hi => by
    obtain ⟨cs, xr, b, br, rfl, rfl, h0, h1, h2⟩ := h
    obtain ⟨k, n, s, la, ln, lc, h3, e0, e1, e2, e3⟩ := WantPs.get r xr br h2 i (by simpa using hi)
    have sh : ∀ j, (cs ++ xr)[(i + 1) * 4 + j]? = xr[i * 4 + j]? := fun j => by
      rw [List.getElem?_append_right (by omega), h0]
      congr 1; omega
    exact ⟨k, n, s, la, ln, lc, h3, (sh 0).trans e0, (sh 1).trans e1, (sh 2).trans e2, (sh 3).trans e3⟩
/-- The two lists that are asked at the end. -/
structure FI (N : Nat) (w : World) (qv pv : Value) (ts : List VT) (qs : List Value) (bq : List Nat) (ps : List PT) (xs : List Value) (bw : List Nat) : Prop where
  base : N ≤ w.heap.size
  q : w.ownsRow N 30 1 qv ts.length qs
  rq : RepVs w ts qs bq
  p : w.ownsRow N 24 4 pv ps.length xs
  rp : WantPs N w ps xs bw
  small : ∀ t ∈ ts, nodesV t ≤ 70000 ∧ depV t ≤ 70 ∧ txtV t
  qd : ∀ g, qv.ownBlock = some g → g ∉ bq ∧ g ∉ bw ∧ pv.ownBlock ≠ some g
  pd : ∀ g, pv.ownBlock = some g → g ∉ bq ∧ g ∉ bw
section
variable {N : Nat} {w w' : World} {qv pv : Value} {ts : List VT} {qs : List Value} {bq : List Nat} {ps : List PT} {xs : List Value} {bw : List Nat}
/-- Nothing of it lies among these blocks. -/
def FI.clear (qv pv : Value) (bq bw bs : List Nat) (N : Nat) : Prop := ∀ g ∈ bs, N ≤ g ∧ g ∉ bq ∧ g ∉ bw ∧ qv.ownBlock ≠ some g ∧ pv.ownBlock ≠ some g
theorem FI.keep (h : FI N w qv pv ts qs bq ps xs bw) {bs : List Nat} (hk : KBs bs w w') (hc : FI.clear qv pv bq bw bs N) : FI N w' qv pv ts qs bq ps xs bw := by
  have hb := h.base
  refine ⟨Nat.le_trans h.base hk.size, ownsRow_keep h.q (fun g hg => hk.block g (h.q.lt g hg).2 (fun hm => (hc g hm).2.2.2.1 hg)), RepVs.keep _ _ _ (fun g hg => hk.block g (RepVs.lt _ _ _ h.rq g hg) (fun hm => (hc g hm).2.1 hg)) h.rq,
    ownsRow_keep h.p (fun g hg => hk.block g (h.p.lt g hg).2 (fun hm => (hc g hm).2.2.2.2 hg)), WantPs.keep hk.size _ _ _ (fun g hg => ?_) h.rp, h.small, h.qd, h.pd⟩
  rcases hg with hg | hg
  · exact hk.block g (by omega) (fun hm => by have := (hc g hm).1; omega)
  · exact hk.block g (WantPs.lt _ _ _ h.rp g hg) (fun hm => (hc g hm).2.2.1 hg)
theorem FI.below (h : FI N w qv pv ts qs bq ps xs bw) (hb : Below w.heap.size w w') : FI N w' qv pv ts qs bq ps xs bw := h.keep (bs := []) (KBs.of_below hb) (fun g hg => by simp at hg)
/-- What is newer than it is none of it. -/
theorem FI.new (h : FI N w qv pv ts qs bq ps xs bw) {bs : List Nat} (hb : ∀ g ∈ bs, w.heap.size ≤ g) : FI.clear qv pv bq bw bs N := fun g hg => by
  have h1 := hb g hg
  have h2 := h.base
  refine ⟨by omega, fun hm => ?_, fun hm => ?_, fun e => ?_, fun e => ?_⟩
  · have := RepVs.lt _ _ _ h.rq g hm; omega
  · have := WantPs.lt _ _ _ h.rp g hm; omega
  · have := (h.q.lt g e).2; omega
  · have := (h.p.lt g e).2; omega
theorem FI.pushQ {t : VT} {v qv' : Value} {b : List Nat} {w1 : World} (h : FI N w qv pv ts qs bq ps xs bw) (hv : RepV w t v b) (hsm : nodesV t ≤ 70000 ∧ depV t ≤ 70 ∧ txtV t) (hcl : ∀ g ∈ b, qv.ownBlock ≠ some g ∧ pv.ownBlock ≠ some g)
    (hb : Below w.heap.size w w1) (hown : w'.ownsRow N 30 1 qv' (ts.length + 1) (qs ++ [v])) (hg : w1.grownBy w' qv.ownBlock) (hbl : qv'.ownBlock = qv.ownBlock ∨ qv'.ownBlock = some w1.heap.size) :
    FI N w' qv' pv (ts ++ [t]) (qs ++ [v]) (bq ++ b) ps xs bw ∧ KBs qv.ownBlock.toList w w' := by
  have hk : KBs qv.ownBlock.toList w w' := by
    refine ⟨hg.os.trans hb.os, hg.tape.trans hb.tape, hg.output.trans hb.output, Nat.le_trans hb.size hg.size, fun g hgl hn => ?_⟩
    rw [hg.block g (Nat.lt_of_lt_of_le hgl hb.size) (fun e => hn (by simp [e]))]
    exact hb.block g hgl
  have hs := hb.size
  have hold : ∀ g, g < w.heap.size → qv.ownBlock ≠ some g → w'.heap[g]? = w.heap[g]? := fun g hgl hn => hk.block g hgl (fun hm => hn (by simpa using hm))
  have hN := h.base
  have hnew : ∀ g, qv'.ownBlock = some g → qv.ownBlock = some g ∨ w.heap.size ≤ g := fun g e => by
    rcases hbl with h1 | h1
    · exact .inl (h1.symm.trans e)
    · rw [h1] at e; simp at e; right; omega
  refine ⟨⟨Nat.le_trans h.base hk.size, by simpa using hown, ?_, ownsRow_keep h.p (fun g hg => hold g (h.p.lt g hg).2 (fun e => (h.qd g e).2.2 hg)), WantPs.keep hk.size _ _ _ (fun g hg => ?_) h.rp, ?_, fun g e => ?_, fun g e => ?_⟩, hk⟩
  · exact RepVs.snoc _ _ _ _ _ _ (RepVs.keep _ _ _ (fun g hg => hold g (RepVs.lt _ _ _ h.rq g hg) (fun e => (h.qd g e).1 hg)) h.rq) (RepV.keep _ _ _ (fun g hg => hold g (RepV.lt _ _ _ hv g hg) (hcl g hg).1) hv)
  · rcases hg with hg | hg
    · exact hold g (by omega) (fun e => by have := (h.q.lt g e).1; omega)
    · exact hold g (WantPs.lt _ _ _ h.rp g hg) (fun e => (h.qd g e).2.1 hg)
  · intro t' ht'
    rcases List.mem_append.1 ht' with h1 | h1
    · exact h.small t' h1
    · have : t' = t := by simpa using h1
      rw [this]; exact hsm
  · rcases hnew g e with h1 | h1
    · refine ⟨fun hm => ?_, (h.qd g h1).2.1, (h.qd g h1).2.2⟩
      rcases List.mem_append.1 hm with hm | hm
      · exact (h.qd g h1).1 hm
      · exact (hcl g hm).1 h1
    · refine ⟨fun hm => ?_, fun hm => ?_, fun e2 => ?_⟩
      · rcases List.mem_append.1 hm with hm | hm
        · have := RepVs.lt _ _ _ h.rq g hm; omega
        · have := RepV.lt _ _ _ hv g hm; omega
      · have := WantPs.lt _ _ _ h.rp g hm; omega
      · have := (h.p.lt g e2).2; omega
  · refine ⟨fun hm => ?_, (h.pd g e).2⟩
    rcases List.mem_append.1 hm with hm | hm
    · exact (h.pd g e).1 hm
    · exact (hcl g hm).2 e
theorem FI.pushP {p : PT} {cs : List Value} {pv' : Value} {b : List Nat} {w1 : World} (h : FI N w qv pv ts qs bq ps xs bw) (hv : WantP N w p cs b) (h4 : cs.length = 4) (hcl : ∀ g ∈ b, qv.ownBlock ≠ some g ∧ pv.ownBlock ≠ some g)
    (hb : Below w.heap.size w w1) (hown : w'.ownsRow N 24 4 pv' (ps.length + 1) (xs ++ cs)) (hg : w1.grownBy w' pv.ownBlock) (hbl : pv'.ownBlock = pv.ownBlock ∨ pv'.ownBlock = some w1.heap.size) :
    FI N w' qv pv' ts qs bq (ps ++ [p]) (xs ++ cs) (bw ++ b) ∧ KBs pv.ownBlock.toList w w' := by
  have hk : KBs pv.ownBlock.toList w w' := by
    refine ⟨hg.os.trans hb.os, hg.tape.trans hb.tape, hg.output.trans hb.output, Nat.le_trans hb.size hg.size, fun g hgl hn => ?_⟩
    rw [hg.block g (Nat.lt_of_lt_of_le hgl hb.size) (fun e => hn (by simp [e]))]
    exact hb.block g hgl
  have hs := hb.size
  have hold : ∀ g, g < w.heap.size → pv.ownBlock ≠ some g → w'.heap[g]? = w.heap[g]? := fun g hgl hn => hk.block g hgl (fun hm => hn (by simpa using hm))
  have hN := h.base
  have hnew : ∀ g, pv'.ownBlock = some g → pv.ownBlock = some g ∨ w.heap.size ≤ g := fun g e => by
    rcases hbl with h1 | h1
    · exact .inl (h1.symm.trans e)
    · rw [h1] at e; simp at e; right; omega
  have hst : ∀ g, g < N ∨ g ∈ bw → w'.heap[g]? = w.heap[g]? := fun g hg => by
    rcases hg with hg | hg
    · exact hold g (by omega) (fun e => by have := (h.p.lt g e).1; omega)
    · exact hold g (WantPs.lt _ _ _ h.rp g hg) (fun e => (h.pd g e).2 hg)
  refine ⟨⟨Nat.le_trans h.base hk.size, ownsRow_keep h.q (fun g hg => hold g (h.q.lt g hg).2 (fun e => (h.qd g hg).2.2 e)), RepVs.keep _ _ _ (fun g hg => hold g (RepVs.lt _ _ _ h.rq g hg) (fun e => (h.pd g e).1 hg)) h.rq, by simpa using hown, ?_, h.small, fun g e => ?_, fun g e => ?_⟩, hk⟩
  · refine WantPs.snoc _ _ _ _ _ _ (WantPs.keep hk.size _ _ _ hst h.rp) h4 (hv.keep hk.size (fun g hg => ?_))
    rcases hg with hg | hg
    · exact hst g (.inl hg)
    · exact hold g (hv.2 g hg) (hcl g hg).2
  · refine ⟨(h.qd g e).1, fun hm => ?_, fun e2 => ?_⟩
    · rcases List.mem_append.1 hm with hm | hm
      · exact (h.qd g e).2.1 hm
      · exact (hcl g hm).1 e
    · rcases hnew g e2 with h1 | h1
      · exact (h.qd g e).2.2 h1
      · have := (h.q.lt g e).2; omega
  · rcases hnew g e with h1 | h1
    · refine ⟨(h.pd g h1).1, fun hm => ?_⟩
      rcases List.mem_append.1 hm with hm | hm
      · exact (h.pd g h1).2 hm
      · exact (hcl g hm).2 h1
    · refine ⟨fun hm => ?_, fun hm => ?_⟩
      · have := RepVs.lt _ _ _ h.rq g hm; omega
      · rcases List.mem_append.1 hm with hm | hm
        · have := WantPs.lt _ _ _ h.rp g hm; omega
        · have := hv.2 g hm; omega
end
end
end Go.Proofs.YtkpnnhebfaggeaaDoor
