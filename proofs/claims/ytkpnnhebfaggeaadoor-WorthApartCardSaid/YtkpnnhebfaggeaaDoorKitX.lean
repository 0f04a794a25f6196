/-
  The book of lists: Whole, and what the law of apartness carries.
  Conditions: none.
-/
import Derived.Test.YtkpnnhebfaggeaaDoorKitW
import Derived.Deep.RegionLaw
import Derived.Test.YtkpnnhebfaggeaaDoorKitU
import Derived.Test.YtkpnnhebfaggeaaDoorKitQ
import Derived.Test.YtkpnnhebfaggeaaDoorKitD
namespace Go.Proofs.YtkpnnhebfaggeaaDoor
section
open Go.RowKit
set_option maxRecDepth 100000
def lenR (R : List Rw) (j : Nat) : Nat := (R.getD j (0, 0, 0)).2.1
def capR (R : List Rw) (j : Nat) : Nat := (R.getD j (0, 0, 0)).2.2
def endR (R : List Rw) (j : Nat) : Nat := min (capR R j) (lenR R j + 70000)
theorem lenR_get {R : List Rw} {j : Nat} {r : Rw} (h : R[j]? = some r) : lenR R j = r.2.1 := by
  unfold lenR
  rw [List.getD_eq_getElem?_getD, h]; rfl
theorem capR_get {R : List Rw} {j : Nat} {r : Rw} (h : R[j]? = some r) : capR R j = r.2.2 := by
  unfold capR
  rw [List.getD_eq_getElem?_getD, h]; rfl
/-- What does not change while the book is written over. -/
structure WC (base B LV NV : Nat) (R : List Rw) (la na : Option Addr) : Prop where
  la : 0 < R.length → la = some ⟨LV, 0, none⟩
  na : 0 < R.length → na = some ⟨NV, 0, none⟩
  nd : (R.map (·.1)).Nodup
  rr : ∀ (j : Nat) (r : Rw), R[j]? = some r → r.1 ≠ B ∧ r.1 ≠ LV ∧ r.1 ≠ NV ∧ base ≤ r.1 ∧ r.2.1 ≤ r.2.2 ∧ r.2.2 ≤ maxLen ∧ r.2.1 ≤ 70000
  lb : 0 < R.length → LV ≠ B ∧ LV ≠ NV ∧ NV ≠ B ∧ base ≤ LV
/-- The book, its lists as long as f says, holding what ct says. -/
structure WH (base B LV NV : Nat) (R : List Rw) (la na : Option Addr) (lc nc : Nat) (kv : Value) (z : Int) (w0 : World) (f : Nat → Nat) (ct : Nat → Nat → Value) (w : World) : Prop where
  c : BKc w B (.slice la R.length lc) (.slice na R.length nc) z kv
  b : Below base w0 w
  l : 0 < R.length → ∃ cl : Array Value, w.heap[LV]? = some (.cells cl 61 (0, 0)) ∧ ∀ (j : Nat) (r : Rw), R[j]? = some r → cl[j]? = some (.slice (some ⟨r.1, 0, none⟩) (f j) r.2.2)
  n : 0 < R.length → ∃ cn : Array Value, w.heap[NV]? = some (.cells cn 3 (0, 0)) ∧ ∀ (j : Nat) (r : Rw), R[j]? = some r → cn[j]? = some (.int .i64 (r.2.1 : Nat))
  m : ∀ (j : Nat) (r : Rw), R[j]? = some r → ∃ cur : Array Value, w.heap[r.1]? = some (.cells cur 30 (0, 0)) ∧ cur.size = r.2.2 ∧ f j ≤ r.2.2 ∧ ∀ k, k < f j → cur[k]? = some (ct j k)
section
variable {base B LV NV : Nat} {R : List Rw} {la na : Option Addr} {lc nc : Nat} {kv : Value} {z : Int} {w0 : World} {f f' : Nat → Nat} {ct ct' : Nat → Nat → Value} {w w' : World}
theorem WH.congr (h : WH base B LV NV R la na lc nc kv z w0 f ct w) (he : ∀ (j : Nat) (r : Rw), R[j]? = some r → f' j = f j ∧ ∀ k, k < f j → ct' j k = ct j k) : WH base B LV NV R la na lc nc kv z w0 f' ct' w := by
  refine ⟨h.c, h.b, fun h0 => ?_, h.n, fun j r hj => ?_⟩
  · obtain ⟨cl, h1, h2⟩ := h.l h0
    exact ⟨cl, h1, fun j r hj => by rw [(he j r hj).1]; exact h2 j r hj⟩
  · obtain ⟨cur, h1, h2, h3, h4⟩ := h.m j r hj
    exact ⟨cur, h1, h2, by rw [(he j r hj).1]; exact h3, fun k hk => by rw [(he j r hj).1] at hk; rw [(he j r hj).2 k hk]; exact h4 k hk⟩
theorem WH.same (h : WH base B LV NV R la na lc nc kv z w0 f ct w) (hh : ∀ g, g < w.heap.size → w'.heap[g]? = w.heap[g]?) (hb : Below base w0 w') : WH base B LV NV R la na lc nc kv z w0 f ct w' := by
  have key : ∀ {g : Nat} {o : Obj}, w.heap[g]? = some o → w'.heap[g]? = some o := fun {g o} e => (hh g (Array.getElem?_eq_some_iff.1 e).1).trans e
  refine ⟨key h.c, hb, fun h0 => ?_, fun h0 => ?_, fun j r hj => ?_⟩
  · obtain ⟨cl, h1, h2⟩ := h.l h0
    exact ⟨cl, key h1, h2⟩
  · obtain ⟨cl, h1, h2⟩ := h.n h0
    exact ⟨cl, key h1, h2⟩
  · obtain ⟨cur, h1, h2⟩ := h.m j r hj
    exact ⟨cur, key h1, h2⟩
theorem WH.drew (h : WH base B LV NV R la na lc nc kv z w0 f ct w) : WH base B LV NV R la na lc nc kv z w0 f ct w.drew := h.same (fun _ _ => rfl) h.b.drew
theorem WH.alloc (h : WH base B LV NV R la na lc nc kv z w0 f ct w) (hb : base ≤ w.heap.size) (o : Obj) : WH base B LV NV R la na lc nc kv z w0 f ct (w.alloc o) := h.same (fun _ hg => Below.heap_alloc w _ _ hg) (h.b.alloc hb o)
theorem below_setb {b j : Nat} (h : Below base w0 w) (hb : base ≤ b) (v : Value) : Below base w0 (w.setCell ⟨b, j, none⟩ v) :=
  ⟨h.os, h.tape, h.output, by have := h.size; simpa [World.setCell] using this, fun g hg => (heap_set_ne v (by omega)).trans (h.block g hg)⟩
theorem WC.inj (C : WC base B LV NV R la na) {i j : Nat} {r q : Rw} (hi : R[i]? = some r) (hj : R[j]? = some q) (e : r.1 = q.1) : i = j := by
  have hi' : i < R.length := (List.getElem?_eq_some_iff.1 hi).1
  have hj' : j < R.length := (List.getElem?_eq_some_iff.1 hj).1
  have e1 : (R.map (·.1))[i]? = some r.1 := by rw [List.getElem?_map, hi]; rfl
  have e2 : (R.map (·.1))[j]? = some r.1 := by rw [List.getElem?_map, hj, e]; rfl
  exact (List.getElem?_inj (by simpa using hi') C.nd).1 (e1.trans e2.symm)
theorem WH.cellL (h : WH base B LV NV R la na lc nc kv z w0 f ct w) {i : Nat} {r : Rw} (hi : R[i]? = some r) : w.cell? ⟨LV, i, none⟩ = some (.slice (some ⟨r.1, 0, none⟩) (f i) r.2.2) ∧ w.frozen? ⟨LV, i, none⟩ = false := by
  obtain ⟨cl, h1, h2⟩ := h.l (by have := (List.getElem?_eq_some_iff.1 hi).1; omega)
  exact ⟨(heapcell h1 i).1.trans (h2 i r hi), (heapcell h1 i).2⟩
theorem WH.cellN (h : WH base B LV NV R la na lc nc kv z w0 f ct w) {i : Nat} {r : Rw} (hi : R[i]? = some r) : w.cell? ⟨NV, i, none⟩ = some (.int .i64 (r.2.1 : Nat)) := by
  obtain ⟨cl, h1, h2⟩ := h.n (by have := (List.getElem?_eq_some_iff.1 hi).1; omega)
  exact (heapcell h1 i).1.trans (h2 i r hi)
theorem WH.cellM (h : WH base B LV NV R la na lc nc kv z w0 f ct w) {i k : Nat} {r : Rw} (hi : R[i]? = some r) (hk : k < f i) : w.cell? ⟨r.1, k, none⟩ = some (ct i k) ∧ w.frozen? ⟨r.1, k, none⟩ = false := by
  obtain ⟨cur, h1, _, _, h2⟩ := h.m i r hi
  exact ⟨(heapcell h1 k).1.trans (h2 k hk), (heapcell h1 k).2⟩
theorem WH.cellR (h : WH base B LV NV R la na lc nc kv z w0 f ct w) {i k : Nat} {r : Rw} (hi : R[i]? = some r) (hk : k < r.2.2) : (w.cell? ⟨r.1, k, none⟩).isSome = true ∧ w.frozen? ⟨r.1, k, none⟩ = false := by
  obtain ⟨cur, h1, h3, _, _⟩ := h.m i r hi
  refine ⟨?_, (heapcell h1 k).2⟩
  rw [(heapcell h1 k).1, Array.getElem?_eq_getElem (by omega)]; rfl
/-- A list's item is written. -/
theorem WH.elem (C : WC base B LV NV R la na) (h : WH base B LV NV R la na lc nc kv z w0 f ct w) {i k : Nat} {r : Rw} (hi : R[i]? = some r) (v : Value) :
    WH base B LV NV R la na lc nc kv z w0 f (fun j q => if j = i ∧ q = k then v else ct j q) (w.setCell ⟨r.1, k, none⟩ v) := by
  obtain ⟨r1, r2, r3, r4, r5, r6, r7⟩ := C.rr i r hi
  refine ⟨(heap_set_ne v (fun e => r1 e.symm)).trans h.c, below_setb h.b r4 v, fun h0 => ?_, fun h0 => ?_, fun j q hj => ?_⟩
  · obtain ⟨cl, h1, h2⟩ := h.l h0
    exact ⟨cl, (heap_set_ne v (fun e => r2 e.symm)).trans h1, h2⟩
  · obtain ⟨cl, h1, h2⟩ := h.n h0
    exact ⟨cl, (heap_set_ne v (fun e => r3 e.symm)).trans h1, h2⟩
  · obtain ⟨cur, h1, h2, h3, h4⟩ := h.m j q hj
    by_cases hij : j = i
    · subst hij
      have : q = r := by rw [hi] at hj; exact (Option.some.inj hj).symm
      subst this
      refine ⟨cur.set! k v, heap_set h1 v, by rw [Array.size_set!]; exact h2, h3, fun p hp => ?_⟩
      by_cases hpk : p = k
      · subst hpk
        have : p < cur.size := by omega
        simp [Array.set!_eq_setIfInBounds, this]
      · rw [Array.set!_eq_setIfInBounds, Array.getElem?_setIfInBounds_ne (fun e => hpk e.symm)]
        simp [hpk]; exact h4 p hp
    · refine ⟨cur, (heap_set_ne v (fun e => hij (C.inj hj hi e))).trans h1, h2, h3, fun p hp => ?_⟩
      simp [hij]; exact h4 p hp
/-- A list grows by one. -/
theorem WH.grow (C : WC base B LV NV R la na) (h : WH base B LV NV R la na lc nc kv z w0 f ct w) {i : Nat} {r : Rw} (hi : R[i]? = some r) (hk : f i < r.2.2) (v : Value) :
    WH base B LV NV R la na lc nc kv z w0 (fun j => if j = i then f i + 1 else f j) (fun j q => if j = i ∧ q = f i then v else ct j q) ((w.setCell ⟨r.1, f i, none⟩ v).setCell ⟨LV, i, none⟩ (.slice (some ⟨r.1, 0, none⟩) (f i + 1) r.2.2)) := by
  have h' := h.elem C hi (k := f i) v
  obtain ⟨r1, r2, r3, r4, r5, r6, r7⟩ := C.rr i r hi
  have hp : 0 < R.length := by have := (List.getElem?_eq_some_iff.1 hi).1; omega
  obtain ⟨l1, l2, l3, l4⟩ := C.lb hp
  refine ⟨(heap_set_ne _ (fun e => l1 e.symm)).trans h'.c, below_setb h'.b l4 _, fun h0 => ?_, fun h0 => ?_, fun j q hj => ?_⟩
  · obtain ⟨cl, h1, h2⟩ := h'.l h0
    refine ⟨cl.set! i _, heap_set h1 _, fun j q hj => ?_⟩
    by_cases hij : j = i
    · subst hij
      have : q = r := by rw [hi] at hj; exact (Option.some.inj hj).symm
      subst this
      have : j < cl.size := (Array.getElem?_eq_some_iff.1 (h2 j q hj)).1
      simp [Array.set!_eq_setIfInBounds, this]
    · rw [Array.set!_eq_setIfInBounds, Array.getElem?_setIfInBounds_ne (fun e => hij e.symm)]
      simp [hij]; exact h2 j q hj
  · obtain ⟨cl, h1, h2⟩ := h'.n h0
    exact ⟨cl, (heap_set_ne _ (fun e => l2 e.symm)).trans h1, h2⟩
  · obtain ⟨cur, h1, h2, h3, h4⟩ := h'.m j q hj
    have hjr := C.rr j q hj
    refine ⟨cur, (heap_set_ne _ hjr.2.1).trans h1, h2, ?_, fun p hp => ?_⟩
    · by_cases hij : j = i
      · subst hij
        have : q = r := by rw [hi] at hj; exact (Option.some.inj hj).symm
        subst this
        simp; omega
      · simp [hij]; exact h3
    · by_cases hij : j = i
      · subst hij
        have : q = r := by rw [hi] at hj; exact (Option.some.inj hj).symm
        subst this
        by_cases hpf : p = f j
        · subst hpf
          obtain ⟨cur0, g1, g2, g3, g4⟩ := h.m j q hj
          have e := heap_set (j := f j) g1 v
          have : cur = cur0.set! (f j) v := by
            rw [h1] at e
            simpa using e
          subst this
          have : f j < cur0.size := by omega
          simp [Array.set!_eq_setIfInBounds, this]
        · have : p < f j := by simp at hp; omega
          exact h4 p this
      · have hp' : p < f j := by simpa [hij] using hp
        exact h4 p hp'
end
def mk0 (j : Nat) : Value := .iface 58 (.int .i64 (-1 - (j : Int)))
def ctA (R : List Rw) (sp : Value) (j k : Nat) : Value := if k < lenR R j then mk0 j else sp
def ctC (R : List Rw) (sp : Value) (i k0 j k : Nat) : Value := if k < lenR R j ∨ j < i ∨ (j = i ∧ k < k0) then mk0 j else sp
def fA (R : List Rw) (i c j : Nat) : Nat := if j < i then endR R j else if j = i then c else lenR R j
section
variable {base B LV NV : Nat} {R : List Rw} {la na : Option Addr} {lc nc : Nat} {kv : Value} {z : Int} {w0 : World} {w : World} {sp : Value}
theorem end_le (C : WC base B LV NV R la na) {j : Nat} {r : Rw} (hj : R[j]? = some r) : lenR R j ≤ endR R j ∧ endR R j ≤ r.2.2 ∧ (endR R j : Int) = min (r.2.2 : Int) ((r.2.1 : Int) + 70000) ∧ r.2.1 ≤ endR R j := by
  have := C.rr j r hj
  unfold endR
  rw [capR_get hj, lenR_get hj]
  omega
theorem WH.g0 (h : WH base B LV NV R la na lc nc kv z w0 (lenR R) (ctA R sp) w) : WH base B LV NV R la na lc nc kv z w0 (fA R 0 (lenR R 0)) (ctA R sp) w := h.congr (fun j r hj => ⟨by
  unfold fA
  by_cases h0 : j = 0
  · subst h0; simp
  · simp [h0], fun k hk => rfl⟩)
theorem WH.gstep (C : WC base B LV NV R la na) {i c : Nat} {r : Rw} (h : WH base B LV NV R la na lc nc kv z w0 (fA R i c) (ctA R sp) w) (hi : R[i]? = some r) (hc : lenR R i ≤ c) (hc2 : c < endR R i) :
    WH base B LV NV R la na lc nc kv z w0 (fA R i (c + 1)) (ctA R sp) ((w.setCell ⟨r.1, c, none⟩ sp).setCell ⟨LV, i, none⟩ (.slice (some ⟨r.1, 0, none⟩) (c + 1) r.2.2)) := by
  have hf : fA R i c i = c := by simp [fA]
  have he := end_le C hi
  have := h.grow C hi (by rw [hf]; omega) sp
  rw [hf] at this
  refine this.congr (fun j q hj => ⟨?_, fun k hk => ?_⟩)
  · unfold fA
    by_cases hji : j = i
    · subst hji; simp
    · simp [hji]
  · by_cases hji : j = i ∧ k = c
    · obtain ⟨rfl, rfl⟩ := hji
      have hn : ¬ k < lenR R j := by omega
      simp [ctA, hn]
    · rw [if_neg hji]
theorem WH.gend {i : Nat} (h : WH base B LV NV R la na lc nc kv z w0 (fA R i (endR R i)) (ctA R sp) w) : WH base B LV NV R la na lc nc kv z w0 (fA R (i + 1) (lenR R (i + 1))) (ctA R sp) w := h.congr (fun j r hj => ⟨by
  unfold fA
  by_cases h1 : j < i
  · rw [if_pos h1, if_pos (by omega)]
  · by_cases h2 : j = i
    · subst h2; rw [if_pos (by omega), if_neg h1, if_pos rfl]
    · rw [if_neg (by omega : ¬ j < i + 1), if_neg h1, if_neg h2]
      by_cases h3 : j = i + 1
      · subst h3; simp
      · simp [h3], fun k hk => rfl⟩)
theorem WH.gdone {c : Nat} (h : WH base B LV NV R la na lc nc kv z w0 (fA R R.length c) (ctA R sp) w) : WH base B LV NV R la na lc nc kv z w0 (endR R) (ctA R sp) w := h.congr (fun j r hj => ⟨by
  have : j < R.length := (List.getElem?_eq_some_iff.1 hj).1
  simp [fA, this], fun k hk => rfl⟩)
theorem WH.c0 (h : WH base B LV NV R la na lc nc kv z w0 (endR R) (ctA R sp) w) : WH base B LV NV R la na lc nc kv z w0 (endR R) (ctC R sp 0 0) w := h.congr (fun j r hj => ⟨rfl, fun k hk => by simp [ctC, ctA]⟩)
theorem WH.cin {i : Nat} (h : WH base B LV NV R la na lc nc kv z w0 (endR R) (ctC R sp i 0) w) : WH base B LV NV R la na lc nc kv z w0 (endR R) (ctC R sp i (lenR R i)) w := h.congr (fun j r hj => ⟨rfl, fun k hk => by
  unfold ctC
  by_cases h1 : k < lenR R j ∨ j < i
  · rw [if_pos (by omega), if_pos (by omega)]
  · rw [if_neg, if_neg (by omega)]
    rintro (h | h | ⟨rfl, h⟩)
    · exact h1 (.inl h)
    · exact h1 (.inr h)
    · exact h1 (.inl h)⟩)
theorem WH.cstep (C : WC base B LV NV R la na) {i k0 : Nat} {r : Rw} (h : WH base B LV NV R la na lc nc kv z w0 (endR R) (ctC R sp i k0) w) (hi : R[i]? = some r) :
    WH base B LV NV R la na lc nc kv z w0 (endR R) (ctC R sp i (k0 + 1)) (w.setCell ⟨r.1, k0, none⟩ (mk0 i)) := by
  refine (h.elem C hi (k := k0) (mk0 i)).congr (fun j q hj => ⟨rfl, fun k hk => ?_⟩)
  unfold ctC
  by_cases h1 : j = i ∧ k = k0
  · obtain ⟨rfl, rfl⟩ := h1
    simp
  · rw [if_neg h1]
    have : (k < lenR R j ∨ j < i ∨ j = i ∧ k < k0 + 1) ↔ (k < lenR R j ∨ j < i ∨ j = i ∧ k < k0) := by omega
    simp only [this]
theorem WH.cend {i : Nat} (h : WH base B LV NV R la na lc nc kv z w0 (endR R) (ctC R sp i (endR R i)) w) : WH base B LV NV R la na lc nc kv z w0 (endR R) (ctC R sp (i + 1) 0) w := h.congr (fun j r hj => ⟨rfl, fun k hk => by
  unfold ctC
  by_cases hji : j = i
  · subst hji
    simp [hk]
  · have : (k < lenR R j ∨ j < i + 1 ∨ j = i + 1 ∧ k < 0) ↔ (k < lenR R j ∨ j < i ∨ j = i ∧ k < endR R i) := by omega
    simp only [this]⟩)
theorem WH.cdone (h : WH base B LV NV R la na lc nc kv z w0 (endR R) (ctC R sp R.length 0) w) : WH base B LV NV R la na lc nc kv z w0 (endR R) (fun j _ => mk0 j) w := h.congr (fun j r hj => ⟨rfl, fun k hk => by
  have : j < R.length := (List.getElem?_eq_some_iff.1 hj).1
  simp [ctC, this]⟩)
end
/-- How long a list is just now. -/
def lenAt (LV i : Nat) (w : World) : Nat := match w.cell? ⟨LV, i, none⟩ with
  | some (.slice _ n _) => n
  | _ => 0
theorem lenAt_eq {LV i : Nat} {w : World} {a : Option Addr} {n c : Nat} (h : w.cell? ⟨LV, i, none⟩ = some (.slice a n c)) : lenAt LV i w = n := by
  unfold lenAt; rw [h]
/-- An append of one where there is room. -/
theorem step_append_one {P : Program} {ops : Array Oper} {o : Oper} {a : Act} {w : World} {K : Act → World → Prop} {Q : Exit → Act → World → Prop} {E : Prop}
    (hg : o.guard = none) (s x : Operand) (t : TypeId) (hop : o.op = Op.call { callee := Callee.builtin Builtin.append, args := #[s, x], argTypes := #[t, t] })
    (e : TypeId) (i : TypeInfo) (h1 : P.underlying t = some (.slice e)) (h2 : P.info? e = some i) (h4 : i.size = 1)
    (b n cap : Nat) (hs : a.eval s = .slice (some ⟨b, 0, none⟩) n cap)
    (ad : Addr) (c : Nat) (v : Value) (hx : a.eval x = .slice (some ad) 1 c) (hc : ∀ j u, [v][j]? = some u → w.cell? (ad.add j) = some u) (h1c : v.oneCell' = true)
    (hroom : n + 1 ≤ cap) (hsp : (w.cell? ⟨b, n, none⟩).isSome = true ∧ w.frozen? ⟨b, n, none⟩ = false)
    (hK : K (a.put o.dst (.slice (some ⟨b, 0, none⟩) (n + 1) cap)) (w.setCell ⟨b, n, none⟩ v)) :
    if Region.wanted o (yielded ops a.tmps) = true then Oper.wp P o a w K Q else E := by
  refine step_append_room hg s x t hop e i 1 h1 h2 h4 b 0 n cap hs ad 1 c [v] hx rfl hc (fun u hu => by simp at hu; subst hu; exact h1c) hroom (fun j hj => ?_) ?_
  · have : j = 0 := by simpa using hj
    subst this
    simpa using hsp
  · simpa [World.setCells] using hK
/-- Out of a book. -/
theorem BK.wc {base B : Nat} {w : World} {R : List Rw} {lv nv kv : Value} {z : Int} {ks : List Value} (h : BK base w B R lv nv kv z ks) :
    ∃ LV NV la na lc nc, lv = .slice la R.length lc ∧ nv = .slice na R.length nc ∧ WC base B LV NV R la na := by
  have hn := (nd4 _ _ _ _ _).1 h.nd
  have hlt := h.lt
  have rr : ∀ (j : Nat) (r : Rw), R[j]? = some r → r.1 ≠ B ∧ lv.ownBlock ≠ some r.1 ∧ nv.ownBlock ≠ some r.1 ∧ base ≤ r.1 ∧ r.2.1 ≤ r.2.2 ∧ r.2.2 ≤ maxLen ∧ r.2.1 ≤ 70000 := fun j r hj => by
    have hm : r ∈ R := List.mem_of_getElem? hj
    have hmm : r.1 ∈ R.map (·.1) := List.mem_map.2 ⟨r, hm, rfl⟩
    obtain ⟨cur, _, _, q1, q2, q3, _⟩ := h.m j r hj
    exact ⟨fun e => hn.2.2.2.1 (e ▸ hmm), fun e => (hn.1 _ e).2.2.2 hmm, fun e => (hn.2.1 _ e).2.2 hmm, h.rb r hm, q1, q2, q3⟩
  rcases h.l.2 with ⟨rfl, h0⟩ | ⟨LV, lc, cl, rfl, hl1, hl2, hl3, hl4, hl5, hl6⟩
  · have hR : R = [] := List.length_eq_zero_iff.1 h0
    subst hR
    obtain ⟨na, nc, rfl⟩ := own_slice h.n
    exact ⟨0, 0, none, na, 0, nc, rfl, rfl, fun h => by simp at h, fun h => by simp at h, by simp, fun j r hj => by simp at hj, fun h => by simp at h⟩
  · rcases h.n.2 with ⟨rfl, h0⟩ | ⟨NV, nc, cn, rfl, hn1, hn2, hn3, hn4, hn5, hn6⟩
    · have hR : R = [] := List.length_eq_zero_iff.1 h0
      subst hR
      exact ⟨0, 0, _, none, lc, 0, rfl, rfl, fun h => by simp at h, fun h => by simp at h, by simp, fun j r hj => by simp at hj, fun h => by simp at h⟩
    · refine ⟨LV, NV, _, _, lc, nc, rfl, rfl, fun _ => rfl, fun _ => rfl, hn.2.2.2.2, fun j r hj => ?_, fun _ => ?_⟩
      · have := rr j r hj
        simp [Value.ownBlock] at this
        exact ⟨this.1, fun e => this.2.1 e.symm, fun e => this.2.2.1 e.symm, this.2.2.2⟩
      · have q1 := hn.1 LV rfl
        have q2 := hn.2.1 NV rfl
        exact ⟨q1.1, fun e => q1.2.1 (by rw [e]; rfl), q2.1, hl1⟩
theorem BK.wh {base B : Nat} {w w0 : World} {R : List Rw} {la na : Option Addr} {lc nc LV NV : Nat} {kv : Value} {z : Int} {ks : List Value} (h : BK base w B R (.slice la R.length lc) (.slice na R.length nc) kv z ks) (C : WC base B LV NV R la na) (hb : Below base w0 w) (sp : Value) :
    WH base B LV NV R la na lc nc kv z w0 (lenR R) (ctA R sp) w := by
  refine ⟨h.c, hb, fun h0 => ?_, fun h0 => ?_, fun j r hj => ?_⟩
  · obtain rfl := C.la h0
    rcases h.l.2 with ⟨e, _⟩ | ⟨g, cap, cur, e, _, hg, _, _, _, ht⟩
    · simp at e
    · simp at e
      obtain ⟨rfl, rfl⟩ := e
      refine ⟨cur, hg, fun j r hj => ?_⟩
      have : (R.map rowV)[j]? = some (rowV r) := by rw [List.getElem?_map, hj]; rfl
      rw [← ht, List.getElem?_take] at this
      split at this
      · rw [lenR_get hj]; simpa [rowV] using this
      · cases this
  · obtain rfl := C.na h0
    rcases h.n.2 with ⟨e, _⟩ | ⟨g, cap, cur, e, _, hg, _, _, _, ht⟩
    · simp at e
    · simp at e
      obtain ⟨rfl, rfl⟩ := e
      refine ⟨cur, hg, fun j r hj => ?_⟩
      have : (R.map fun r => Value.int .i64 (r.2.1 : Nat))[j]? = some (.int .i64 (r.2.1 : Nat)) := by rw [List.getElem?_map, hj]; rfl
      rw [← ht, List.getElem?_take] at this
      split at this
      · simpa using this
      · cases this
  · obtain ⟨cur, h1, h2, h3, h4, h5, h6⟩ := h.m j r hj
    refine ⟨cur, h1, h2, by rw [lenR_get hj]; exact h3, fun k hk => ?_⟩
    have hk' := hk
    rw [lenR_get hj] at hk'
    unfold ctA mk0
    rw [if_pos hk, h6 k hk', show (-1 - (j : Int)) = -((j : Int) + 1) from by omega]
end

section
open Go.RowKit
set_option maxRecDepth 100000
def spV : Value := .iface 88 (.string ⟨#[115, 112, 97, 114, 101]⟩)
def spO : Obj := .cells #[.iface 88 (.string ⟨#[115, 112, 97, 114, 101]⟩)] 30
section
variable {base B LV NV : Nat} {R : List Rw} {la na : Option Addr} {lc nc : Nat} {kv : Value} {z : Int} {w0 w : World}
theorem WH.gstep2 (C : WC base B LV NV R la na) {i c : Nat} {r : Rw} (h : WH base B LV NV R la na lc nc kv z w0 (fA R i c) (ctA R spV) w) (hb : base ≤ w.heap.size) (hi : R[i]? = some r) (hc : lenR R i ≤ c) (hc2 : c < endR R i) :
    WH base B LV NV R la na lc nc kv z w0 (fA R i (c + 1)) (ctA R spV) ((((w.alloc spO).setCell ⟨r.1, c, none⟩ spV).setCell ⟨LV, i, none⟩ (.slice (some ⟨r.1, 0, none⟩) (c + 1) r.2.2)).drew) :=
  ((h.alloc hb spO).gstep C hi hc hc2).drew
theorem meas_lt {E a b c : Nat} (h1 : a = c + 1) (h2 : b = c) (h : c < E) : E - a < E - b := by omega
theorem fA_self (R : List Rw) (i c : Nat) : fA R i c i = c := by simp [fA]
end
set_option maxHeartbeats 4000000 in
theorem whole_any (w : World) (base B : Nat) (rows : List Rw) (lv nv kv : Value) (z : Int) (ks : List Value) (ts : List (Option VT)) (bs : List Nat) (out : List Value)
    (hbk : BK base w B rows lv nv kv z ks) (hr : RepOs w ts ks bs out) (hnd : bs.Nodup) (hd : ∀ g ∈ bs, base ≤ g ∧ g ∉ bkB B rows lv nv kv)
    (hts : ts.length ≤ 100) (hrl : rows.length ≤ 10000000) (hz : z ≤ 1000000000000) :
    Calls Tryd.prog 24 #[.pointer (some ⟨B, 0, none⟩)] w fun e w' => e = .returned (.bool true) ∧ Below base w w' := by
  obtain ⟨i30, hi30, _, hy1, _⟩ := info_parts info30
  have HI30 := Lib.hid hi30
  have HY1 := Lib.hid hy1
  clear hi30 hy1
  have hkl := RepOs.length ts ks bs out hr
  obtain ⟨ka, kc, hks⟩ := own_slice hbk.k
  subst hks
  have hnn := (nd4 _ _ _ _ _).1 hbk.nd
  have hav : w.ownsRow 0 30 1 (.slice ka ks.length kc) ts.length ks := by rw [← hkl]; exact ⟨hbk.k.1, hbk.k.2.imp id (fun ⟨g, cap, cur, e, _, r⟩ => ⟨g, cap, cur, e, Nat.zero_le _, r⟩)⟩
  have hT := take_any w base B rows lv nv (.slice ka ks.length kc) (.slice ka ks.length kc) z ks ts ks bs out hbk hr hnd hd hav
    (fun g e => ⟨fun hm => (hd g hm).2 (mem_bkB.2 (.inr (.inr (.inr (.inl e))))), (hnn.2.2.1 g e).1, fun e2 => (hnn.1 g e2).2.2.1 e, fun e2 => (hnn.2.1 g e2).2.1 e⟩) hts hrl hz
  have hol : out.length ≤ 7000000 := by
    obtain ⟨rs, e1, _, e3, _⟩ := outs_os ts ks bs out hr hnd
    rw [e1, List.length_map]; omega
  have hbw : ∀ w1 : World, KBs (bkB B rows lv nv (.slice ka ks.length kc) ++ bs) w w1 → Below base w w1 := fun w1 hk => hk.below (fun g hg => by
    rcases List.mem_append.1 hg with hg | hg
    · exact (hbk.lt g hg).1
    · exact (hd g hg).1) (Nat.le_trans hbk.hb (Nat.le_of_lt (hbk.lt B (mem_bkB.2 (.inl rfl))).2))
  have hb0 := hbk.c
  obtain ⟨c3, _⟩ := heapcell hb0 3
  have HT := Lib.hid hT
  have HBW := Lib.hid hbw
  have HOL := Lib.hid hol
  have HBs := Lib.hid (Nat.le_trans hbk.hb (Nat.le_of_lt (hbk.lt B (mem_bkB.2 (.inl rfl))).2))
  clear hbk hr hnd hd hkl hnn hav hT hol hbw hb0
  go_enter Tryd.func24, Tryd.ntmps24
  go_wp2_with fail
  refine HT.out.mono ?_
  rintro e w1 ⟨rfl, rows2, lv', nv', z', hbk1, _, hz1, hl1, hk1, _, _⟩
  have hb1 := HBW.out w1 hk1
  obtain ⟨LV, NV, la, na, lc, nc, rfl, rfl, C⟩ := hbk1.wc
  have HW1 := Lib.hid (hbk1.wh C hb1 spV)
  obtain ⟨R, hR⟩ : ∃ R, R = rows ++ rows2 := ⟨_, rfl⟩
  rw [← hR] at C HW1
  have hRl : R.length ≤ 17000000 := by rw [hR, List.length_append]; have := HOL.out; omega
  have HC := Lib.hid C
  clear hbk1 hk1 hb1 hR C HT HBW hl1
  clear c3
  go_wp2_with fail
  go_loopw [3] (fun iv wr => ∃ i : Nat, i ≤ R.length ∧ iv = .int .i64 i ∧ Hid (WH base B LV NV R la na lc nc (.slice ka ks.length kc) z' w (fA R i (lenR R i)) (ctA R spV) wr))
    (fun iv _ => R.length - (intOf iv).toNat)
  case atStart => exact ⟨0, by omega, rfl, Lib.hid HW1.out.g0⟩
  case round =>
    obtain ⟨i, hi, rfl, HW⟩ := hrel
    obtain ⟨b0, _⟩ := heapcell HW.out.c 0
    by_cases hlt : i < R.length
    · have hltI : (i : Int) < (R.length : Int) := by omega
      obtain ⟨r, hr⟩ : ∃ r, R[i]? = some r := ⟨R[i], List.getElem?_eq_getElem hlt⟩
      obtain rfl := HC.out.la (by omega)
      obtain rfl := HC.out.na (by omega)
      have x0 := (HW.out.cellL hr).1
      rw [fA_self, lenR_get hr] at x0
      have n0 := HW.out.cellN hr
      obtain ⟨b1, _⟩ := heapcell HW.out.c 1
      have hend := end_le HC.out hr
      obtain ⟨r1, r2, r3, r4, r5, r6, r7⟩ := HC.out.rr i r hr
      rw [lenR_get hr] at hend
      have hcI : ((r.2.2 : Nat) : Int) ≤ 9223372036854775807 := by unfold maxLen at r6; omega
      have hw2 : IntKind.i64.wrap (((r.2.1 : Nat) : Int) + 70000) = ((r.2.1 : Nat) : Int) + 70000 := by exact IntWalk.i64_in _ (by omega)
      have hmin := hend.2.2.1
      generalize hE : endR R i = E at hend hmin
      have HR := Lib.hid hr
      have HE := Lib.hid hE
      have HEN := Lib.hid hend
      have HRR := Lib.hid (And.intro r1 (And.intro r2 (And.intro r3 (And.intro r4 r5))))
      have HMN := Lib.hid hmin
      clear hr hE hend r1 r2 r3 r4 r5 r6 r7 hmin
      go_wp2_with fail
      go_still_tail 17, (by kernel_rfl)
      go_wp2_with fail
      rw [← HMN.out]
      have h0 : Hid (WH base B LV NV R (some ⟨LV, 0, none⟩) (some ⟨NV, 0, none⟩) lc nc (.slice ka ks.length kc) z' w (fA R i r.2.1) (ctA R spV) wr.drew) := Lib.hid (by have := HW.out.drew; rw [lenR_get HR.out] at this; exact this)
      have hEn := HEN.out
      have hEI : (E : Int) ≤ 9223372036854775807 := by omega
      have HEL := Lib.hid (And.intro hEn.1 hEn.2.1)
      clear HW x0 n0 b0 b1 hw2 hEn HMN
      go_loopw [] (fun wr => ∃ (c : Nat), r.2.1 ≤ c ∧ c ≤ E ∧ Hid (WH base B LV NV R (some ⟨LV, 0, none⟩) (some ⟨NV, 0, none⟩) lc nc (.slice ka ks.length kc) z' w (fA R i c) (ctA R spV) wr)) (fun wr => E - lenAt LV i wr)
      case atStart => exact ⟨r.2.1, by omega, HEL.out.1, h0⟩
      case round =>
        obtain ⟨c, hc1, hc2, HW⟩ := hrel
        obtain ⟨b0, _⟩ := heapcell HW.out.c 0
        obtain ⟨x0, fx0⟩ := HW.out.cellL HR.out
        rw [fA_self] at x0
        have HLA := Lib.hid (lenAt_eq x0)
        by_cases hlt2 : c < E
        · have hcI : (c : Int) < (E : Int) := by omega
          obtain ⟨hBs, hLs⟩ : B < wr.heap.size ∧ LV < wr.heap.size := ⟨(Array.getElem?_eq_some_iff.1 HW.out.c).1, by
            obtain ⟨cl, h1, _⟩ := HW.out.l (by omega)
            exact (Array.getElem?_eq_some_iff.1 h1).1⟩
          have b0a : (wr.alloc spO).cell? ⟨B, 0, none⟩ = some (.slice (some ⟨LV, 0, none⟩) R.length lc) := (heapcell ((Below.heap_alloc wr _ _ hBs).trans HW.out.c) 0).1
          have ha := HW.out.alloc (Nat.le_trans HBs.out HW.out.b.size) spO
          have x0a := ha.cellL HR.out
          rw [fA_self] at x0a
          obtain ⟨x0a, fx0a⟩ := x0a
          have HCELL := Lib.hid (ha.cellR (k := c) HR.out (by have := HEL.out.2; omega))
          have HRM : Hid (c + 1 ≤ r.2.2) := Lib.hid (by have := HEL.out.2; omega)
          obtain ⟨r1, r2, _, _, _⟩ := HRR.out
          have r2' : LV ≠ r.1 := fun e => r2 e.symm
          clear ha
          go_wp2_with fail
          go_region_law (refine step_append_one (by rfl) _ _ _ (by rfl) 30 i30 Tryd.underlying61 HI30.out HY1.out r.1 c r.2.2 (by rfl) ⟨wr.heap.size, 0, none⟩ 1 (.iface 88 (.string ⟨#[115, 112, 97, 114, 101]⟩)) (by rfl) (one_new _ _ _) rfl HRM.out HCELL.out ?_)
          all_goals
            go_wp2_with fail
            have HG := Lib.hid (HW.out.gstep2 HC.out (Nat.le_trans HBs.out HW.out.b.size) HR.out (by rw [lenR_get HR.out]; exact hc1) (by rw [HE.out]; exact hlt2))
            go_roundw
            case rel => exact ⟨c + 1, by omega, by omega, HG⟩
            case measure =>
              have h1 := lenAt_eq (HG.out.cellL HR.out).1
              rw [fA_self] at h1
              have h2 := HLA.out
              exact meas_lt h1 h2 hlt2
        · obtain rfl : c = E := by omega
          have hcI : ¬ ((c : Int) < (c : Int)) := by omega
          go_wp2_with fail
          go_roundw
          case rel => exact ⟨i + 1, by omega, by go_num, Lib.hid (by have := HW.out; rw [← HE.out] at this; exact this.gend)⟩
          case measure => simp [intOf]; omega
    · obtain rfl : i = R.length := by omega
      have hltI : ¬ ((R.length : Int) < (R.length : Int)) := by omega
      go_wp2_with fail
      have HW2 := Lib.hid HW.out.gdone
      clear HW
      go_loopw [5] (fun iv wr => ∃ i : Nat, i ≤ R.length ∧ iv = .int .i64 i ∧ Hid (WH base B LV NV R la na lc nc (.slice ka ks.length kc) z' w (endR R) (ctA R spV) wr))
        (fun iv _ => R.length - (intOf iv).toNat)
      case atStart => exact ⟨0, by omega, rfl, HW2⟩
      case round =>
        obtain ⟨i, hi, rfl, HW⟩ := hrel
        obtain ⟨b0, _⟩ := heapcell HW.out.c 0
        by_cases hlt : i < R.length
        · have hltI : (i : Int) < (R.length : Int) := by omega
          obtain ⟨r, hr⟩ : ∃ r, R[i]? = some r := ⟨R[i], List.getElem?_eq_getElem hlt⟩
          obtain rfl := HC.out.la (by omega)
          obtain rfl := HC.out.na (by omega)
          have hend := end_le HC.out hr
          rw [lenR_get hr] at hend
          have HR := Lib.hid hr
          obtain ⟨E, hE⟩ : ∃ E, E = endR R i := ⟨_, rfl⟩
          rw [← hE] at hend
          have HE := Lib.hid hE
          have HEN := Lib.hid hend
          have h7 : r.2.1 ≤ 70000 := (HC.out.rr i r hr).2.2.2.2.2.2
          have h8 : E ≤ 140000 := by omega
          have h7I : (r.2.1 : Int) ≤ 70000 := by omega
          have h8I : (E : Int) ≤ 140000 := by omega
          clear hr hE hend h7 h8
          go_wp2_with fail
          go_loopw [6] (fun kv' wr => ∃ k : Nat, k ≤ E ∧ kv' = .int .i64 k ∧ Hid (WH base B LV NV R (some ⟨LV, 0, none⟩) (some ⟨NV, 0, none⟩) lc nc (.slice ka ks.length kc) z' w (endR R) (ctA R spV) wr))
            (fun kv' _ => E - (intOf kv').toNat)
          case atStart => exact ⟨0, by omega, rfl, HW⟩
          case round =>
            obtain ⟨k, hk, rfl, HW⟩ := hrel
            obtain ⟨b0, _⟩ := heapcell HW.out.c 0
            obtain ⟨b1, _⟩ := heapcell HW.out.c 1
            have x0 := (HW.out.cellL HR.out).1
            rw [← HE.out] at x0
            have n0 := HW.out.cellN HR.out
            by_cases hlt2 : k < E
            · have hkI : (k : Int) < (E : Int) := by omega
              have m0 := (HW.out.cellM (k := k) HR.out (by rw [← HE.out]; exact hlt2)).1
              unfold ctA at m0
              rw [lenR_get HR.out] at m0
              by_cases hkl : k < r.2.1
              · rw [if_pos hkl] at m0
                unfold mk0 at m0
                have hklI : (k : Int) < (r.2.1 : Int) := by omega
                clear hkl
                go_wp2_with fail
                go_roundw
                case rel => exact ⟨k + 1, by omega, by go_num, HW⟩
                case measure => simp [intOf]; omega
              · rw [if_neg hkl] at m0
                unfold spV at m0
                have hklI : ¬ (k : Int) < (r.2.1 : Int) := by omega
                clear hkl
                go_wp2_with fail
                go_roundw
                case rel => exact ⟨k + 1, by omega, by go_num, HW⟩
                case measure => simp [intOf]; omega
            · obtain rfl : k = E := by omega
              have hkI : ¬ (k : Int) < (k : Int) := by omega
              go_wp2_with fail
              go_roundw
              case rel => exact ⟨i + 1, by omega, by go_num, HW⟩
              case measure => simp [intOf]; omega
        · obtain rfl : i = R.length := by omega
          have hltI : ¬ ((R.length : Int) < (R.length : Int)) := by omega
          go_wp2_with fail
          have HW2 := Lib.hid HW.out.c0
          clear HW
          go_loopw [9] (fun iv wr => ∃ i : Nat, i ≤ R.length ∧ iv = .int .i64 i ∧ Hid (WH base B LV NV R la na lc nc (.slice ka ks.length kc) z' w (endR R) (ctC R spV i 0) wr))
            (fun iv _ => R.length - (intOf iv).toNat)
          case atStart => exact ⟨0, by omega, rfl, HW2⟩
          case round =>
            obtain ⟨i, hi, rfl, HW⟩ := hrel
            obtain ⟨b0, _⟩ := heapcell HW.out.c 0
            by_cases hlt : i < R.length
            · have hltI : (i : Int) < (R.length : Int) := by omega
              obtain ⟨r, hr⟩ : ∃ r, R[i]? = some r := ⟨R[i], List.getElem?_eq_getElem hlt⟩
              obtain rfl := HC.out.la (by omega)
              obtain rfl := HC.out.na (by omega)
              have hend := end_le HC.out hr
              have HR := Lib.hid hr
              obtain ⟨E, hE⟩ : ∃ E, E = endR R i := ⟨_, rfl⟩
              rw [← hE] at hend
              have HE := Lib.hid hE
              have HEN := Lib.hid hend
              have h7 : r.2.1 ≤ 70000 := (HC.out.rr i r hr).2.2.2.2.2.2
              have h8 : r.2.1 ≤ E ∧ E ≤ 140000 ∧ E ≤ r.2.2 := by omega
              have h7I : (r.2.1 : Int) ≤ 70000 := by omega
              have h8I : (E : Int) ≤ 140000 := by omega
              have H8 := Lib.hid h8
              have n0 := HW.out.cellN hr
              obtain ⟨b1, _⟩ := heapcell HW.out.c 1
              have HW3 := Lib.hid HW.out.cin
              clear hr hE hend h7 h8
              go_wp2_with fail
              go_loopw [10] (fun kv' wr => ∃ k : Nat, r.2.1 ≤ k ∧ k ≤ E ∧ kv' = .int .i64 k ∧ Hid (WH base B LV NV R (some ⟨LV, 0, none⟩) (some ⟨NV, 0, none⟩) lc nc (.slice ka ks.length kc) z' w (endR R) (ctC R spV i k) wr))
                (fun kv' _ => E - (intOf kv').toNat)
              case atStart => exact ⟨r.2.1, by omega, H8.out.1, rfl, by rw [lenR_get HR.out] at HW3; exact HW3⟩
              case round =>
                obtain ⟨k, hk0, hk, rfl, HW⟩ := hrel
                obtain ⟨b0, _⟩ := heapcell HW.out.c 0
                have x0 := (HW.out.cellL HR.out).1
                rw [← HE.out] at x0
                by_cases hlt2 : k < E
                · have hkI : (k : Int) < (E : Int) := by omega
                  obtain ⟨hs, fm⟩ := HW.out.cellR (k := k) HR.out (by have := H8.out.2.2; omega)
                  obtain ⟨mv, m0⟩ := Option.isSome_iff_exists.1 hs
                  clear hs
                  have HG := Lib.hid (HW.out.cstep HC.out HR.out)
                  unfold mk0 at HG
                  go_wp2_with fail
                  go_roundw
                  case rel => exact ⟨k + 1, by omega, by omega, by go_num, HG⟩
                  case measure => simp [intOf]; omega
                · obtain rfl : k = E := by omega
                  have hkI : ¬ (k : Int) < (k : Int) := by omega
                  go_wp2_with fail
                  go_roundw
                  case rel => exact ⟨i + 1, by omega, by go_num, Lib.hid (by have := HW.out; rw [HE.out] at this; exact this.cend)⟩
                  case measure => simp [intOf]; omega
            · obtain rfl : i = R.length := by omega
              have hltI : ¬ ((R.length : Int) < (R.length : Int)) := by omega
              go_wp2_with fail
              have HW2 := Lib.hid HW.out.cdone
              clear HW
              go_loopw [11] (fun iv wr => ∃ i : Nat, i ≤ R.length ∧ iv = .int .i64 i ∧ Hid (WH base B LV NV R la na lc nc (.slice ka ks.length kc) z' w (endR R) (fun j _ => mk0 j) wr))
                (fun iv _ => R.length - (intOf iv).toNat)
              case atStart => exact ⟨0, by omega, rfl, HW2⟩
              case round =>
                obtain ⟨i, hi, rfl, HW⟩ := hrel
                obtain ⟨b0, _⟩ := heapcell HW.out.c 0
                by_cases hlt : i < R.length
                · have hltI : (i : Int) < (R.length : Int) := by omega
                  obtain ⟨r, hr⟩ : ∃ r, R[i]? = some r := ⟨R[i], List.getElem?_eq_getElem hlt⟩
                  obtain rfl := HC.out.la (by omega)
                  obtain rfl := HC.out.na (by omega)
                  have hend := end_le HC.out hr
                  have HR := Lib.hid hr
                  obtain ⟨E, hE⟩ : ∃ E, E = endR R i := ⟨_, rfl⟩
                  rw [← hE] at hend
                  have HE := Lib.hid hE
                  have h7 : r.2.1 ≤ 70000 := (HC.out.rr i r hr).2.2.2.2.2.2
                  have h8I : (E : Int) ≤ 140000 := by omega
                  clear hr hE hend h7
                  go_wp2_with fail
                  go_loopw [12] (fun kv' wr => ∃ k : Nat, k ≤ E ∧ kv' = .int .i64 k ∧ Hid (WH base B LV NV R (some ⟨LV, 0, none⟩) (some ⟨NV, 0, none⟩) lc nc (.slice ka ks.length kc) z' w (endR R) (fun j _ => mk0 j) wr))
                    (fun kv' _ => E - (intOf kv').toNat)
                  case atStart => exact ⟨0, by omega, rfl, HW⟩
                  case round =>
                    obtain ⟨k, hk, rfl, HW⟩ := hrel
                    obtain ⟨b0, _⟩ := heapcell HW.out.c 0
                    have x0 := (HW.out.cellL HR.out).1
                    rw [← HE.out] at x0
                    by_cases hlt2 : k < E
                    · have hkI : (k : Int) < (E : Int) := by omega
                      have m0 := (HW.out.cellM (k := k) HR.out (by rw [← HE.out]; exact hlt2)).1
                      unfold mk0 at m0
                      go_wp2_with fail
                      go_roundw
                      case rel => exact ⟨k + 1, by omega, by go_num, HW⟩
                      case measure => simp [intOf]; omega
                    · obtain rfl : k = E := by omega
                      have hkI : ¬ (k : Int) < (k : Int) := by omega
                      go_wp2_with fail
                      go_roundw
                      case rel => exact ⟨i + 1, by omega, by go_num, HW⟩
                      case measure => simp [intOf]; omega
                · obtain rfl : i = R.length := by omega
                  have hltI : ¬ ((R.length : Int) < (R.length : Int)) := by omega
                  go_wp2_with fail
                  go_ret
                  exact ⟨rfl, HW.out.b⟩
end

section
open Go.RowKit
set_option maxRecDepth 100000
/-- A value, or none, with its lists' blocks. -/
abbrev Ent := Option VT × Value × List Nat
def entB (L : List Ent) : List Nat := L.flatMap (·.2.2)
theorem mem_entB {L : List Ent} {g : Nat} : g ∈ entB L ↔ ∃ e ∈ L, g ∈ e.2.2 := by simp [entB, List.mem_flatMap]
theorem entB_app (L M : List Ent) : entB (L ++ M) = entB L ++ entB M := by simp [entB]
theorem entB_perm {L M : List Ent} (h : L.Perm M) : (entB L).Perm (entB M) := h.flatMap_right _
theorem repOs_of {w : World} : ∀ (M : List Ent), (∀ e ∈ M, ∃ out, RepO w e.1 e.2.1 e.2.2 out) → ∃ out, RepOs w (M.map (·.1)) (M.map (·.2.1)) (entB M) out
  | [], _ => ⟨[], rfl, rfl, rfl⟩
  | e :: r, h => by
    obtain ⟨o, ho⟩ := h e (by simp)
    obtain ⟨ol, hol⟩ := repOs_of r (fun x hx => h x (by simp [hx]))
    exact ⟨o ++ ol, e.2.1, r.map (·.2.1), e.2.2, entB r, o, ol, rfl, rfl, rfl, ho, hol⟩
/-- The book, what it keeps, and the values that are at hand. -/
structure AP (N : Nat) (w0 : World) (B : Nat) (rows : List Rw) (lv nv kv : Value) (z : Int) (K L : List Ent) (w : World) : Prop where
  bk : BK N w B rows lv nv kv z (K.map (·.2.1))
  rep : ∀ e ∈ K ++ L, ∃ out, RepO w e.1 e.2.1 e.2.2 out
  nd : (entB (K ++ L)).Nodup
  far : ∀ g ∈ entB (K ++ L), N ≤ g ∧ g ∉ bkB B rows lv nv kv
  b : Below N w0 w
section
variable {N : Nat} {w0 : World} {B : Nat} {rows : List Rw} {lv nv kv : Value} {z : Int} {K L A M C : List Ent} {w w' wx : World}
theorem AP.base (h : AP N w0 B rows lv nv kv z K L w) : N ≤ w.heap.size := Nat.le_trans h.bk.hb (Nat.le_of_lt (h.bk.lt B (mem_bkB.2 (.inl rfl))).2)
theorem AP.lt (h : AP N w0 B rows lv nv kv z K L w) : ∀ g ∈ entB (K ++ L), g < w.heap.size := fun g hg => by
  obtain ⟨e, he, hm⟩ := mem_entB.1 hg
  obtain ⟨out, ho⟩ := h.rep e he
  exact ho.lt g hm
theorem AP.below (h : AP N w0 B rows lv nv kv z K L w) (hb : Below w.heap.size w w') : AP N w0 B rows lv nv kv z K L w' :=
  ⟨h.bk.keep (fun g hg => hb.block g (h.bk.lt g hg).2), fun e he => (h.rep e he).imp fun _ ho => ho.keep (fun g hg => hb.block g (ho.lt g hg)), h.nd, h.far, h.b.trans (hb.mono h.base)⟩
theorem AP.new (h : AP N w0 B rows lv nv kv z K L w) (hb : Below w.heap.size w w') {t : Option VT} {v : Value} {b : List Nat} (hv : ∃ out, RepO w' t v b out) (hn : b.Nodup) (hg : ∀ g ∈ b, w.heap.size ≤ g) :
    AP N w0 B rows lv nv kv z K (L ++ [(t, v, b)]) w' := by
  have h' := h.below hb
  refine ⟨h'.bk, fun e he => ?_, ?_, fun g hgm => ?_, h'.b⟩
  · rcases List.mem_append.1 he with he | he
    · exact h'.rep e (List.mem_append_left _ he)
    · rcases List.mem_append.1 he with he | he
      · exact h'.rep e (List.mem_append_right _ he)
      · simp at he; subst he; exact hv
  · rw [← List.append_assoc, entB_app, List.nodup_append]
    refine ⟨h.nd, by simpa [entB] using hn, fun a ha b hb' e => ?_⟩
    have h1 := h.lt a ha
    have h2 := hg b (by simpa [entB] using hb')
    omega
  · rw [← List.append_assoc, entB_app] at hgm
    rcases List.mem_append.1 hgm with hgm | hgm
    · exact h.far g hgm
    · have h2 := hg g (by simpa [entB] using hgm)
      have h3 := h.base
      exact ⟨by omega, fun hm => by have := (h.bk.lt g hm).2; omega⟩
theorem AP.perm {L' : List Ent} (h : AP N w0 B rows lv nv kv z K L w) (hp : L.Perm L') : AP N w0 B rows lv nv kv z K L' w := by
  have hpp : (K ++ L).Perm (K ++ L') := hp.append_left K
  exact ⟨h.bk, fun e he => h.rep e (hpp.mem_iff.2 he), (entB_perm hpp).nodup_iff.1 h.nd, fun g hg => h.far g ((entB_perm hpp).mem_iff.2 hg), h.b⟩
theorem BK.setk {base : Nat} {ks news : List Value} {kv' : Value} (h : BK base w B rows lv nv kv z ks) (hc : BKc w' B lv nv z kv') (hk : w'.ownsRow base 30 1 kv' (ks ++ news).length (ks ++ news)) (hkb : KBs (B :: kv.ownBlock.toList) w w')
    (hn : ∀ g, kv'.ownBlock = some g → kv.ownBlock = some g ∨ w.heap.size ≤ g) : BK base w' B rows lv nv kv' z (ks ++ news) := by
  have hd := (nd4 _ _ _ _ _).1 h.nd
  have hlt := h.lt
  have st : ∀ g, g < w.heap.size → g ≠ B → kv.ownBlock ≠ some g → w'.heap[g]? = w.heap[g]? := fun g hg h1 h2 => hkb.block g hg (by simp [h1, h2])
  refine ⟨hc, ownsRow_keep h.l (fun g e => st g (hlt g (mem_bkB.2 (.inr (.inl e)))).2 (hd.1 g e).1 (hd.1 g e).2.2.1), ownsRow_keep h.n (fun g e => st g (hlt g (mem_bkB.2 (.inr (.inr (.inl e))))).2 (hd.2.1 g e).1 (hd.2.1 g e).2.1), hk,
    h.m.keep (fun r hr => st r.1 (hlt r.1 (mem_bkB.2 (.inr (.inr (.inr (.inr ⟨r, hr, rfl⟩)))))).2 (fun e => hd.2.2.2.1 (e ▸ List.mem_map.2 ⟨r, hr, rfl⟩)) (fun e => (hd.2.2.1 _ e).2 (List.mem_map.2 ⟨r, hr, rfl⟩))), h.z0, ?_, h.hb, h.rb⟩
  refine (nd4 _ _ _ _ _).2 ⟨fun x hx => ⟨(hd.1 x hx).1, (hd.1 x hx).2.1, fun e => ?_, (hd.1 x hx).2.2.2⟩, fun x hx => ⟨(hd.2.1 x hx).1, fun e => ?_, (hd.2.1 x hx).2.2⟩, fun x hx => ?_, hd.2.2.2.1, hd.2.2.2.2⟩
  · rcases hn x e with h1 | h1
    · exact (hd.1 x hx).2.2.1 h1
    · have := (hlt x (mem_bkB.2 (.inr (.inl hx)))).2; omega
  · rcases hn x e with h1 | h1
    · exact (hd.2.1 x hx).2.1 h1
    · have := (hlt x (mem_bkB.2 (.inr (.inr (.inl hx))))).2; omega
  · rcases hn x hx with h1 | h1
    · exact hd.2.2.1 x h1
    · refine ⟨fun e => ?_, fun e => ?_⟩
      · have := (hlt B (mem_bkB.2 (.inl rfl))).2; omega
      · obtain ⟨r, hr, rfl⟩ := List.mem_map.1 e
        have := (hlt r.1 (mem_bkB.2 (.inr (.inr (.inr (.inr ⟨r, hr, rfl⟩)))))).2; omega
theorem pm1 (K A M C : List Ent) : ((K ++ M) ++ (A ++ C)).Perm (K ++ (A ++ M ++ C)) := by
  rw [List.append_assoc]
  refine List.Perm.append_left K ?_
  rw [← List.append_assoc]
  exact List.Perm.append_right C List.perm_append_comm
theorem repO_one {t : Option VT} {v : Value} {bs : List Nat} {out : List Value} (h : RepO w t v bs out) : v.oneCell' = true := by
  cases t with
  | none => rw [h.1]; rfl
  | some t => obtain ⟨ty, u, rfl⟩ := (RepS.repV _ _ _ _ h.1).iface; rfl
/-- 'Keep' of values that are at hand. -/
theorem AP.keep_call (h : AP N w0 B rows lv nv kv z K (A ++ M ++ C) w) (hb : Below w.heap.size w wx) (ad : Addr) (m c : Nat) (hm : M.length = m) (hc : ∀ j u, (M.map (·.2.1))[j]? = some u → wx.cell? (ad.add j) = some u) (hkm : K.length + m ≤ 10000000) :
    Calls Tryd.prog 22 #[.pointer (some ⟨B, 0, none⟩), .slice (some ad) m c] wx fun e w' => e = .returned (.tuple #[]) ∧ ∃ kv', AP N w0 B rows lv nv kv' z (K ++ M) (A ++ C) w' := by
  have h' := h.below hb
  have hnn := (nd4 _ _ _ _ _).1 h'.bk.nd
  have hp := pm1 K A M C
  refine (keep_any wx B N (K.map (·.2.1)).length m c lv nv kv z (K.map (·.2.1)) (M.map (·.2.1)) ad h'.bk.c h'.bk.k (fun e => (hnn.2.2.1 B e).1 rfl) (by simpa using hm) hc ?_ (by simpa using hkm) h'.base).mono ?_
  · intro u hu
    obtain ⟨e, he, rfl⟩ := List.mem_map.1 hu
    obtain ⟨out, ho⟩ := h'.rep e (by simp [he])
    exact repO_one ho
  rintro e w' ⟨rfl, kv', hc1, ho1, hk1, hn1⟩
  have hbk := h'.bk.setk (news := M.map (·.2.1)) hc1 (by simpa [hm] using ho1) hk1 hn1
  refine ⟨rfl, kv', by rw [List.map_append]; exact hbk, fun e he => ?_, (entB_perm hp).nodup_iff.2 h.nd, fun g hg => ?_, ?_⟩
  · have he' := hp.mem_iff.1 he
    obtain ⟨out, ho⟩ := h'.rep e he'
    refine ⟨out, ho.keep (fun g hg => hk1.block g (ho.lt g hg) (fun hm' => ?_))⟩
    have := (h.far g (mem_entB.2 ⟨e, he', hg⟩)).2
    rcases List.mem_cons.1 hm' with rfl | hm'
    · exact this (mem_bkB.2 (.inl rfl))
    · exact this (mem_bkB.2 (.inr (.inr (.inr (.inl (by simpa using hm'))))))
  · have hg' := (entB_perm hp).mem_iff.1 hg
    have hf := h.far g hg'
    refine ⟨hf.1, fun hm' => ?_⟩
    rcases mem_bkB.1 hm' with h1 | h1 | h1 | h1 | h1
    · exact hf.2 (mem_bkB.2 (.inl h1))
    · exact hf.2 (mem_bkB.2 (.inr (.inl h1)))
    · exact hf.2 (mem_bkB.2 (.inr (.inr (.inl h1))))
    · rcases hn1 g h1 with h2 | h2
      · exact hf.2 (mem_bkB.2 (.inr (.inr (.inr (.inl h2)))))
      · have := h'.lt g hg'; omega
    · exact hf.2 (mem_bkB.2 (.inr (.inr (.inr (.inr h1)))))
  · refine h'.b.trans (hk1.below (fun g hg => ?_) h'.base)
    rcases List.mem_cons.1 hg with rfl | hg
    · exact h'.bk.hb
    · exact (h'.bk.lt g (mem_bkB.2 (.inr (.inr (.inr (.inl (by simpa using hg))))))).1
/-- 'Take' of values that are at hand. -/
theorem AP.take_call (h : AP N w0 B rows lv nv kv z K (A ++ M ++ C) w) (hb : Below w.heap.size w wx) (av : Value) (hav : wx.ownsRow 0 30 1 av M.length (M.map (·.2.1))) (havn : ∀ g, av.ownBlock = some g → w.heap.size ≤ g) (hts : M.length ≤ 100)
    (hrl : rows.length ≤ 10000000) (hz : z ≤ 1000000000000) :
    Calls Tryd.prog 23 #[.pointer (some ⟨B, 0, none⟩), av] wx fun e w' => e = .returned (.tuple #[]) ∧ ∃ rows2 lv' nv' z', AP N w0 B (rows ++ rows2) lv' nv' kv z' K (A ++ C) w' ∧ rows2.length ≤ 70000 * M.length ∧ z' ≤ max z 2097152 + 140010 := by
  have h' := h.below hb
  have hp := pm1 K A M C
  have hall : ∀ g ∈ entB M, g ∈ entB (K ++ (A ++ M ++ C)) := fun g hg => by
    obtain ⟨e, he, hm⟩ := mem_entB.1 hg
    exact mem_entB.2 ⟨e, by simp [he], hm⟩
  have hall2 : ∀ g ∈ entB (K ++ (A ++ C)), g ∈ entB (K ++ (A ++ M ++ C)) := fun g hg => by
    obtain ⟨e, he, hm⟩ := mem_entB.1 hg
    refine mem_entB.2 ⟨e, ?_, hm⟩
    simp at he ⊢
    rcases he with h1 | h1 | h1 <;> simp [h1]
  have hnd2 : (entB M ++ entB (K ++ (A ++ C))).Nodup := by
    have : (entB (M ++ (K ++ (A ++ C)))).Perm (entB (K ++ (A ++ M ++ C))) := entB_perm (by
      refine List.Perm.trans ?_ hp
      rw [← List.append_assoc]
      exact List.Perm.append_right _ List.perm_append_comm)
    rw [← entB_app]
    exact this.nodup_iff.2 h.nd
  obtain ⟨hndM, hndO, hdis⟩ := List.nodup_append.1 hnd2
  obtain ⟨out, hro⟩ := repOs_of (w := wx) M (fun e he => h'.rep e (by simp [he]))
  have hol : out.length ≤ 70000 * M.length := by
    obtain ⟨rs, e1, _, e3, _⟩ := outs_os _ _ _ _ hro hndM
    rw [e1, List.length_map]; simpa using e3
  refine (take_any wx N B rows lv nv kv av z (K.map (·.2.1)) (M.map (·.1)) (M.map (·.2.1)) (entB M) out h'.bk hro hndM (fun g hg => h.far g (hall g hg)) (by simpa using hav) (fun g hg => ?_) (by simpa using hts) hrl hz).mono ?_
  · have h1 := havn g hg
    refine ⟨fun hm => ?_, fun e => ?_, fun e => ?_, fun e => ?_⟩
    · have := h.lt g (hall g hm); omega
    · have := (h.bk.lt B (mem_bkB.2 (.inl rfl))).2; omega
    · have := (h.bk.lt g (mem_bkB.2 (.inr (.inl e)))).2; omega
    · have := (h.bk.lt g (mem_bkB.2 (.inr (.inr (.inl e))))).2; omega
  rintro e w' ⟨rfl, rows2, lv', nv', z', hbk, hr2, hz2, hl2, hk2, hlv, hnv⟩
  refine ⟨rfl, rows2, lv', nv', z', ⟨hbk, fun e he => ?_, hndO, fun g hg => ?_, ?_⟩, by omega, hz2⟩
  · obtain ⟨out2, ho⟩ := h'.rep e (by
      simp at he ⊢
      rcases he with h1 | h1 | h1 <;> simp [h1])
    refine ⟨out2, ho.keep (fun g hg => hk2.block g (ho.lt g hg) (fun hm => ?_))⟩
    have hgo : g ∈ entB (K ++ (A ++ C)) := mem_entB.2 ⟨e, he, hg⟩
    rcases List.mem_append.1 hm with hm | hm
    · exact (h.far g (hall2 g hgo)).2 hm
    · exact hdis g hm g hgo rfl
  · have hf := h.far g (hall2 g hg)
    have hl := h'.lt g (hall2 g hg)
    refine ⟨hf.1, fun hm => ?_⟩
    rcases mem_bkB.1 hm with h1 | h1 | h1 | h1 | ⟨r, hr, h1⟩
    · exact hf.2 (mem_bkB.2 (.inl h1))
    · rcases hlv g h1 with h2 | h2
      · exact hf.2 (mem_bkB.2 (.inr (.inl h2)))
      · omega
    · rcases hnv g h1 with h2 | h2
      · exact hf.2 (mem_bkB.2 (.inr (.inr (.inl h2))))
      · omega
    · exact hf.2 (mem_bkB.2 (.inr (.inr (.inr (.inl h1)))))
    · rcases List.mem_append.1 hr with hr | hr
      · exact hf.2 (mem_bkB.2 (.inr (.inr (.inr (.inr ⟨r, hr, h1⟩)))))
      · exact hdis g (h1 ▸ hr2 r hr) g hg rfl
  · refine h'.b.trans (hk2.below (fun g hg => ?_) h'.base)
    rcases List.mem_append.1 hg with hg | hg
    · exact (h'.bk.lt g hg).1
    · exact (h.far g (hall g hg)).1
/-- 'Whole' with nothing at hand. -/
theorem AP.whole_call (h : AP N w0 B rows lv nv kv z K [] w) (hK : K.length ≤ 100) (hrl : rows.length ≤ 10000000) (hz : z ≤ 1000000000000) :
    Calls Tryd.prog 24 #[.pointer (some ⟨B, 0, none⟩)] w fun e w' => e = .returned (.bool true) ∧ Below N w0 w' := by
  obtain ⟨out, hro⟩ := repOs_of (w := w) K (fun e he => h.rep e (by simp [he]))
  have hnd := h.nd
  have hfar := h.far
  rw [List.append_nil] at hnd hfar
  refine (whole_any w N B rows lv nv kv z _ _ _ out h.bk hro hnd hfar (by simpa using hK) hrl hz).mono ?_
  rintro e w' ⟨rfl, hb⟩
  exact ⟨rfl, h.b.trans hb⟩
end
end

section
open Go.RowKit
set_option maxRecDepth 100000
/-- What is new behind a call: a value, or none. -/
def EntR (w : World) (v : Value) (w' : World) : Prop := (v = .nilIface ∨ ∃ ty u, v = .iface ty u) ∧ Below w.heap.size w w' ∧ ∃ t b, (∃ out, RepO w' t v b out) ∧ b.Nodup ∧ ∀ g ∈ b, w.heap.size ≤ g
theorem AP.ent {N : Nat} {w0 : World} {B : Nat} {rows : List Rw} {lv nv kv : Value} {z : Int} {K L : List Ent} {w w' : World} {v : Value} (h : AP N w0 B rows lv nv kv z K L w) (he : EntR w v w') : ∃ t b, AP N w0 B rows lv nv kv z K (L ++ [(t, v, b)]) w' := by
  obtain ⟨_, hb, t, b, h1, h2, h3⟩ := he
  exact ⟨t, b, h.new hb h1 h2 h3⟩
theorem ent_nil {w w' : World} (hb : Below w.heap.size w w') : EntR w .nilIface w' := ⟨.inl rfl, hb, none, [], ⟨[], rfl, rfl, rfl⟩, by simp, by simp⟩
theorem ent_val {w w' : World} {t : VT} {v : Value} {b : List Nat} (hv : RepV w' t v b) (hn : nodesV t ≤ 70000) (hd : b.Nodup) (hg : ∀ g ∈ b, w.heap.size ≤ g) (hb : Below w.heap.size w w') : EntR w v w' := by
  refine ⟨.inr hv.iface, hb, some t, b, ?_, hd, hg⟩
  obtain ⟨out, ho⟩ := RepV.sls _ _ _ hv
  exact ⟨out, ho, hn⟩
theorem nodes_may {p : PT} (hm : mayP p = true) : nodesV (valOf p) ≤ 65536 := by
  obtain ⟨_, m2, _, _⟩ := may_plain p 65536 0 (by omega) (by omega) hm
  have m5 := meas_bd p 65536 0 hm
  omega
theorem join_ent {p : PT} {w w' : World} {e : Ending} (hm : mayP p = true) (h : JoinR [p, p, p] w e w') : ∃ v c, e = .returned (.tuple #[v, .int .i64 c]) ∧ EntR w v w' := by
  obtain ⟨_, h2, h3⟩ := h
  cases hq : mayP (.mk 5 0 ⟨#[]⟩ [p, p, p])
  · obtain ⟨he, hb⟩ := h2 (by simp [allMay, hm]) hq
    exact ⟨_, _, he, ent_nil hb⟩
  · obtain ⟨v, bs, he, hv, hn, hg, hb⟩ := h3 hq
    exact ⟨v, _, he, ent_val hv (Nat.le_trans (nodes_may hq) (by omega)) hn hg hb⟩
theorem read_ent {s : ByteArray} {w w' : World} {e : Ending} (h : ReadQ w (readR s) e w') : ∃ v a c, e = .returned (.tuple #[v, .int .i64 a, .int .i64 c]) ∧ EntR w v w' := by
  cases hr : readR s with
  | error pc =>
    rw [hr] at h
    obtain ⟨he, hb⟩ : ReadP w (.error pc) e w' := h
    exact ⟨_, _, _, he, ent_nil hb⟩
  | ok t =>
    rw [hr] at h
    obtain ⟨v, bs, he, hv, hn, hg, hb⟩ : ReadP w (.ok t) e w' := h
    obtain ⟨_, h1, _, _⟩ := read_back hr
    exact ⟨v, _, _, he, ent_val hv (Nat.le_trans (small_of t).1 (by omega)) hn hg hb⟩
theorem pair_newA (w : World) (a b : Value) (t : TypeId) : ∀ j u, [a, b][j]? = some u → (w.alloc (.cells #[a, b] t)).cell? ((⟨w.heap.size, 0, none⟩ : Addr).add j) = some u := by
  intro j u hu
  rw [show (⟨w.heap.size, 0, none⟩ : Addr).add j = ⟨w.heap.size, j, none⟩ from by unfold Addr.add; split <;> simp_all]
  rw [cell_of_row _ _ j _ _ _ (heap_alloc_new w _)]
  simpa using hu
theorem own_new1 (w : World) (a : Value) : (w.alloc (.cells #[a] 30)).ownsRow 0 30 1 (.slice (some ⟨w.heap.size, 0, none⟩) 1 1) 1 [a] := ⟨rfl, .inr ⟨w.heap.size, 1, #[a], rfl, Nat.zero_le _, heap_alloc_new _ _, by decide, by decide, rfl, rfl⟩⟩
theorem own_new2 (w : World) (a b : Value) : (w.alloc (.cells #[a, b] 30)).ownsRow 0 30 1 (.slice (some ⟨w.heap.size, 0, none⟩) 2 2) 2 [a, b] := ⟨rfl, .inr ⟨w.heap.size, 2, #[a, b], rfl, Nat.zero_le _, heap_alloc_new _ _, by decide, by decide, rfl, rfl⟩⟩
section
variable {N : Nat} {w0 : World} {B : Nat} {rows : List Rw} {lv nv kv : Value} {z : Int} {K A C : List Ent} {w : World} {t1 t2 : Option VT} {v1 v2 : Value} {b1 b2 : List Nat}
theorem AP.keep1 (h : AP N w0 B rows lv nv kv z K (A ++ [(t1, v1, b1)] ++ C) w) (hk : K.length + 1 ≤ 10000000) :
    Calls Tryd.prog 22 #[.pointer (some ⟨B, 0, none⟩), .slice (some ⟨w.heap.size, 0, none⟩) 1 1] (w.alloc (.cells #[v1] 30)) fun e w' => e = .returned (.tuple #[]) ∧ ∃ kv', AP N w0 B rows lv nv kv' z (K ++ [(t1, v1, b1)]) (A ++ C) w' :=
  h.keep_call (alloc_below w _) _ 1 1 rfl (one_new _ _ _) hk
theorem AP.keep2 (h : AP N w0 B rows lv nv kv z K (A ++ [(t1, v1, b1), (t2, v2, b2)] ++ C) w) (hk : K.length + 2 ≤ 10000000) :
    Calls Tryd.prog 22 #[.pointer (some ⟨B, 0, none⟩), .slice (some ⟨w.heap.size, 0, none⟩) 2 2] (w.alloc (.cells #[v1, v2] 30)) fun e w' => e = .returned (.tuple #[]) ∧ ∃ kv', AP N w0 B rows lv nv kv' z (K ++ [(t1, v1, b1), (t2, v2, b2)]) (A ++ C) w' :=
  h.keep_call (alloc_below w _) _ 2 2 rfl (pair_newA _ _ _ _) hk
theorem AP.take1 (h : AP N w0 B rows lv nv kv z K (A ++ [(t1, v1, b1)] ++ C) w) (hrl : rows.length ≤ 10000000) (hz : z ≤ 1000000000000) :
    Calls Tryd.prog 23 #[.pointer (some ⟨B, 0, none⟩), .slice (some ⟨w.heap.size, 0, none⟩) 1 1] (w.alloc (.cells #[v1] 30)) fun e w' => e = .returned (.tuple #[]) ∧
      ∃ rows2 lv' nv' z', AP N w0 B (rows ++ rows2) lv' nv' kv z' K (A ++ C) w' ∧ rows2.length ≤ 70000 * 1 ∧ z' ≤ max z 2097152 + 140010 :=
  h.take_call (alloc_below w _) _ (own_new1 w v1) (fun g hg => by simp [Value.ownBlock] at hg; omega) (by simp) hrl hz
theorem AP.take2 (h : AP N w0 B rows lv nv kv z K (A ++ [(t1, v1, b1), (t2, v2, b2)] ++ C) w) (hrl : rows.length ≤ 10000000) (hz : z ≤ 1000000000000) :
    Calls Tryd.prog 23 #[.pointer (some ⟨B, 0, none⟩), .slice (some ⟨w.heap.size, 0, none⟩) 2 2] (w.alloc (.cells #[v1, v2] 30)) fun e w' => e = .returned (.tuple #[]) ∧
      ∃ rows2 lv' nv' z', AP N w0 B (rows ++ rows2) lv' nv' kv z' K (A ++ C) w' ∧ rows2.length ≤ 70000 * 2 ∧ z' ≤ max z 2097152 + 140010 :=
  h.take_call (alloc_below w _) _ (own_new2 w v1 v2) (fun g hg => by simp [Value.ownBlock] at hg; omega) (by simp) hrl hz
end
theorem ap_start {w w1 : World} (hb : Below w.heap.size w w1) : AP w.heap.size w w1.heap.size [] (.slice none 0 0) (.slice none 0 0) (.slice none 0 0) 0 [] [] (w1.alloc (.cells #[.slice none 0 0, .slice none 0 0, .int .i64 0, .slice none 0 0] 51)) :=
  ⟨⟨heap_alloc_new w1 _, ⟨rfl, .inl ⟨rfl, rfl⟩⟩, ⟨rfl, .inl ⟨rfl, rfl⟩⟩, ⟨rfl, .inl ⟨rfl, rfl⟩⟩, fun j r h => by simp at h, Int.le_refl _, by simp [Value.ownBlock], hb.size, by simp⟩, by simp, by simp [entB], by simp [entB], hb.alloc hb.size _⟩
theorem twelve_cells (w : World) (a b c d : Value) : ∀ j v, ([a, b, c, d] ++ ([a, b, c, d] ++ [a, b, c, d]))[j]? = some v → (w.alloc (.cells #[a, b, c, d, a, b, c, d, a, b, c, d] 24)).cell? ⟨w.heap.size, j, none⟩ = some v := by
  intro j v hv
  rw [cell_of_row _ _ j _ _ _ (heap_alloc_new w _)]
  simpa using hv
theorem cs_of_arg {w : World} {p : PT} {a b c d : Value} (h : ArgP w p (.agg #[a, b, c, d])) : CsP w p [a, b, c, d] := by
  cases p with
  | mk k n s l =>
    obtain ⟨h1, h2, la, lc, e, h4⟩ := h
    simp only [Value.agg.injEq, Array.mk.injEq, List.cons.injEq, and_true] at e
    obtain ⟨rfl, rfl, rfl, rfl⟩ := e
    exact ⟨h1, h2, la, lc, rfl, h4⟩
theorem trip_slp {w : World} {p : PT} {a b c d : Value} (h : ArgP w p (.agg #[a, b, c, d])) : SlP (w.alloc (.cells #[a, b, c, d, a, b, c, d, a, b, c, d] 24)) [p, p, p] (.slice (some ⟨w.heap.size, 0, none⟩) 3 3) := by
  have hc : CsP (w.alloc (.cells #[a, b, c, d, a, b, c, d, a, b, c, d] 24)) p [a, b, c, d] := cs_of_arg (h.below (alloc_below w _))
  have g := twelve_cells w a b c d
  refine ⟨by simp, _, 3, rfl, fun _ => ⟨_, 0, rfl, hc.inP (fun j v hv => ?_), hc.inP (fun j v hv => ?_), hc.inP (fun j v hv => ?_), trivial⟩⟩
  · rw [Nat.zero_add]
    exact g j v (by rw [List.getElem?_append_left]; exact hv; exact (List.getElem?_eq_some_iff.1 hv).1)
  · have := g (4 + j) v (by rw [List.getElem?_append_right (by simp), List.getElem?_append_left (by simpa using (List.getElem?_eq_some_iff.1 hv).1)]; simpa using hv)
    simpa using this
  · have := g (8 + j) v (by rw [List.getElem?_append_right (by simp; omega), List.getElem?_append_right (by simp; omega)]; simp at hv ⊢; rw [show 8 + j - 4 - 4 = j from by omega]; exact hv)
    simpa [Nat.add_assoc] using this
theorem x4 {w w' : World} {a0 a1 a2 a3 : Addr} {v0 v1 v2 v3 : Value} (h : w.cell? a0 = some v0 ∧ w.cell? a1 = some v1 ∧ w.cell? a2 = some v2 ∧ w.cell? a3 = some v3) (hb : Below w.heap.size w w') :
    w'.cell? a0 = some v0 ∧ w'.cell? a1 = some v1 ∧ w'.cell? a2 = some v2 ∧ w'.cell? a3 = some v3 := ⟨cell_stepA h.1 hb, cell_stepA h.2.1 hb, cell_stepA h.2.2.1 hb, cell_stepA h.2.2.2 hb⟩
theorem S4' {W w' : World} {a0 a1 a2 a3 : Addr} {v0 v1 v2 v3 : Value} (h0 : W.cell? a0 = some v0) (h1 : W.cell? a1 = some v1) (h2 : W.cell? a2 = some v2) (h3 : W.cell? a3 = some v3) (hb : Below W.heap.size W w') :
    w'.cell? a0 = some v0 ∧ w'.cell? a1 = some v1 ∧ w'.cell? a2 = some v2 ∧ w'.cell? a3 = some v3 ∧ Below W.heap.size W w' := ⟨cell_stepA h0 hb, cell_stepA h1 hb, cell_stepA h2 hb, cell_stepA h3 hb, hb⟩
theorem and5' {a1 a2 a3 a4 b : Prop} (h : a1 ∧ a2 ∧ a3 ∧ a4 ∧ b) : b := h.2.2.2.2
theorem ent_step {w4 W w' : World} {v : Value} (hb : Below w4.heap.size w4 W) (h : EntR W v w') : Below w4.heap.size w4 w' := below_step hb h.2.1
theorem ent_old {w4 W w' : World} {v : Value} (hb : Below w4.heap.size w4 W) (h : EntR W v w') : EntR w4 v w' := by
  obtain ⟨h1, h2, t, b, h3, h4, h5⟩ := h
  exact ⟨h1, below_step hb h2, t, b, h3, h4, fun g hg => Nat.le_trans hb.size (h5 g hg)⟩
theorem join_three {p : PT} {W : World} {a b c d : Value} (hm : mayP p = true) (h : ArgP W p (.agg #[a, b, c, d])) :
    Calls Tryd.prog 17 #[.slice (some ⟨W.heap.size, 0, none⟩) 3 3] (W.alloc (.cells #[a, b, c, d, a, b, c, d, a, b, c, d] 24)) fun e w' => ∃ v x, e = .returned (.tuple #[v, .int .i64 x]) ∧ EntR W v w' := by
  refine (join_any [p, p, p] _ _ (trip_slp h)).mono ?_
  intro e w' hj
  obtain ⟨v, x, rfl, he⟩ := join_ent hm hj
  exact ⟨v, x, rfl, ent_old (alloc_below W _) he⟩
theorem join_three' {p : PT} {W : World} {a b c d : Value} (hm : mayP p = true) (h : ArgP W p (.agg #[a, b, c, d])) :
    Calls Tryd.prog 17 #[.slice (some ⟨W.heap.size, 0, none⟩) 3 3] (W.alloc (.cells #[a, b, c, d, a, b, c, d, a, b, c, d] 24)).drew fun e w' => ∃ v x, e = .returned (.tuple #[v, .int .i64 x]) ∧ EntR W v w' := by
  have hb : Below W.heap.size W W.drew := (Below.refl _ _).drew
  have := join_three (W := W.drew) hm (h.below hb)
  refine this.mono ?_
  rintro e w' ⟨v, x, rfl, he⟩
  exact ⟨v, x, rfl, ent_old hb he⟩
theorem below_drewA {w w1 : World} (h : Below w.heap.size w w1) : Below w.heap.size w w1.drew := h.drew
theorem below_allocA {w w1 : World} (h : Below w.heap.size w w1) (o : Obj) : Below w.heap.size w (w1.alloc o) := h.alloc h.size o
theorem textP_casesA (p : PT) : (textP p = (enc (valOf p), 0) ∧ (enc (valOf p)).length ≤ 1048576) ∨ (∃ e : Int, (e = 1 ∨ e = 2) ∧ textP p = ([], e)) := by
  unfold textP
  by_cases h : mayP p = true
  · rw [if_pos h]
    by_cases h1 : 1048576 < (enc (valOf p)).length
    · rw [if_pos h1]; exact .inr ⟨2, .inr rfl, rfl⟩
    · rw [if_neg h1]; exact .inl ⟨rfl, by omega⟩
  · rw [if_neg h]; exact .inr ⟨1, .inl rfl, rfl⟩
theorem read_may {p : PT} (hm : mayP p = true) (ho : okP p) (hl : (enc (valOf p)).length ≤ 1048576) (w : World) (ht : Tabs w) (h5 : 5 ≤ w.heap.size) : Calls Tryd.prog 10 #[.string ⟨(enc (valOf p)).toArray⟩] w fun e w' =>
    ∃ ty u a c, e = .returned (.tuple #[.iface ty u, .int .i64 a, .int .i64 c]) ∧ EntR w (.iface ty u) w' := by
  have hsz : (⟨(enc (valOf p)).toArray⟩ : ByteArray).size ≤ 1048576 := by
    show (enc (valOf p)).toArray.size ≤ _
    simpa using hl
  have hread := read_short ⟨(enc (valOf p)).toArray⟩ w hsz ht h5
  rw [read_text hm ho] at hread
  refine hread.mono ?_
  intro e w' hq
  obtain ⟨v, bs, he, hv, hn, hg, hb⟩ : ReadP w (.ok (valOf p)) e w' := hq
  obtain ⟨ty, u, rfl⟩ := hv.iface
  exact ⟨ty, u, _, _, he, ent_val hv (Nat.le_trans (nodes_may hm) (by omega)) hn hg hb⟩
theorem read_str {s : ByteArray} (hs : s.size ≤ 1048576) (w : World) (ht : Tabs w) (h5 : 5 ≤ w.heap.size) : Calls Tryd.prog 10 #[.string s] w fun e w' => ∃ v a c, e = .returned (.tuple #[v, .int .i64 a, .int .i64 c]) ∧ EntR w v w' :=
  (read_short s w hs ht h5).mono fun _ _ h => read_ent h
theorem okPs_at : ∀ (l : List PT) (i : Nat) (h : i < l.length), okPs l → okP l[i]
  | p :: r, 0, h, ho => ho.1
  | p :: r, i + 1, h, ho => okPs_at r i (by simpa using h) ho.2
end
end Go.Proofs.YtkpnnhebfaggeaaDoor
