/-
  The document's May and Size, Twin, marks, Kept, Full, and what the law of fresh lists carries: walks by the kit.
  Conditions: none.
-/
import Derived.Test.YtkpnnhebfaggeaaDoorKitP
namespace Go.Proofs.YtkpnnhebfaggeaaDoor
section
open Go.RowKit
set_option maxRecDepth 100000
/-- What 'left' answers. -/
def leftI (p : PT) (size deep : Int) : Int := if (meas p size deep).2 then size - (meas p size deep).1 else -1
def goodP (k n : Int) (s : ByteArray) (l : List PT) (deep : Int) : Prop :=
  (k = 1 ∧ n = 0 ∧ s.toList = [] ∧ l.length = 0) ∨ (k = 2 ∧ (n = 0 ∨ n = 1) ∧ s.toList = [] ∧ l.length = 0) ∨ (k = 3 ∧ s.toList = [] ∧ l.length = 0) ∨ (k = 4 ∧ n = 0 ∧ l.length = 0) ∨ (k = 5 ∧ n = 0 ∧ s.toList = [] ∧ deep < 64)
theorem size_nil {s : ByteArray} (h : s.toList = []) : s.size = 0 := by
  rw [bytes_nil h]; rfl
theorem meas_good {k n : Int} {s : ByteArray} {l : List PT} {size deep : Int} (hd : deep ≤ 64) (h : (meas (.mk k n s l) size deep).2 = true) : goodP k n s l deep ∧ 0 ≤ size - 1 - s.size := by
  unfold meas at h
  split at h
  · simp at h
  · rename_i h0
    have hs : k ≠ 4 → s.toList = [] := fun hk => Classical.byContradiction fun hn => h0 (.inr (.inl ⟨hk, hn⟩))
    have hl : k ≠ 5 → l.length = 0 := fun hk => by have := fun hn : 0 < l.length => h0 (.inr (.inr ⟨hk, hn⟩)); omega
    have h1 : 1 ≤ size := by have := fun e : size < 1 => h0 (.inl e); omega
    split at h
    · rename_i hk; simp only [decide_eq_true_eq] at h
      exact ⟨.inl ⟨hk, h, hs (by omega), hl (by omega)⟩, by rw [size_nil (hs (by omega))]; omega⟩
    · split at h
      · rename_i hk; simp only [decide_eq_true_eq] at h
        exact ⟨.inr (.inl ⟨hk, h, hs (by omega), hl (by omega)⟩), by rw [size_nil (hs (by omega))]; omega⟩
      · split at h
        · rename_i hk
          exact ⟨.inr (.inr (.inl ⟨hk, hs (by omega), hl (by omega)⟩)), by rw [size_nil (hs (by omega))]; omega⟩
        · split at h
          · rename_i hk; simp only [decide_eq_true_eq] at h
            exact ⟨.inr (.inr (.inr (.inl ⟨hk, h.1, hl (by omega)⟩))), by omega⟩
          · split at h
            · rename_i hk
              split at h
              · simp at h
              · rename_i h2
                have hn : n = 0 := Classical.byContradiction fun e => h2 (.inl e)
                have hd' : deep ≠ 64 := fun e => h2 (.inr e)
                exact ⟨.inr (.inr (.inr (.inr ⟨hk, hn, hs (by omega), by omega⟩))), by rw [size_nil (hs (by omega))]; omega⟩
            · simp at h
theorem left_bad {k n : Int} {s : ByteArray} {l : List PT} {size deep : Int} (hd : deep ≤ 64) (h : ¬ (goodP k n s l deep ∧ 0 ≤ size - 1 - s.size)) : leftI (.mk k n s l) size deep = -1 := by
  unfold leftI
  rw [if_neg (fun e => h (meas_good hd e))]
theorem left_leaf {k n : Int} {s : ByteArray} {l : List PT} {size deep : Int} (hk : k ≠ 5) (hg : goodP k n s l deep) (hz : 0 ≤ size - 1 - s.size) : leftI (.mk k n s l) size deep = size - 1 - s.size := by
  have e : meas (.mk k n s l) size deep = (1 + (s.size : Int), true) := by
    unfold meas
    rcases hg with ⟨rfl, rfl, h1, h2⟩ | ⟨rfl, h0, h1, h2⟩ | ⟨rfl, h1, h2⟩ | ⟨rfl, rfl, h2⟩ | ⟨rfl, _⟩
    · have := size_nil h1
      rw [if_neg (by simp [h1, h2]; omega), if_pos rfl]; simp [this]
    · have := size_nil h1
      rw [if_neg (by simp [h1, h2]; omega), if_neg (by decide), if_pos rfl]; simp [h0, this]
    · have := size_nil h1
      rw [if_neg (by simp [h1, h2]; omega), if_neg (by decide), if_neg (by decide), if_pos rfl]; simp [this]
    · rw [if_neg (by simp [h2]; omega), if_neg (by decide), if_neg (by decide), if_neg (by decide), if_pos rfl]
      have : (s.size : Int) < size := by omega
      simp [this]
    · exact absurd rfl hk
  unfold leftI
  rw [e]
  simp only [if_true]; omega
def leftL (l : List PT) (left deep n : Int) : Int := if (measL l left deep n).2 then left - (measL l left deep n).1 else -1
theorem left_list {n : Int} {s : ByteArray} {l : List PT} {size deep : Int} (hg : goodP 5 n s l deep) (hz : 0 ≤ size - 1 - s.size) : leftI (.mk 5 n s l) size deep = leftL l size (deep + 1) 1 := by
  rcases hg with ⟨h, _⟩ | ⟨h, _⟩ | ⟨h, _⟩ | ⟨h, _⟩ | ⟨_, rfl, h1, h2⟩
  · omega
  · omega
  · omega
  · omega
  have := size_nil h1
  unfold leftI leftL
  have e : meas (.mk 5 0 s l) size deep = measL l size (deep + 1) 1 := by
    rw [meas, if_neg (by simp [h1]; omega), if_neg (by decide), if_neg (by decide), if_neg (by decide), if_neg (by decide), if_pos rfl, if_neg (by omega)]
  rw [e]
theorem leftL_step (p : PT) (r : List PT) (left deep n : Int) : leftL (p :: r) left deep n = if 0 ≤ leftI p (left - n) deep then leftL r left deep (left - leftI p (left - n) deep) else -1 := by
  have hb := meas_bd p (left - n) deep
  rcases h : meas p (left - n) deep with ⟨k, ok⟩
  rw [h] at hb
  have hi : leftI p (left - n) deep = if ok then left - n - k else -1 := by unfold leftI; rw [h]
  cases ok with
  | false =>
    have e : measL (p :: r) left deep n = (0, false) := by simp [measL, h]
    unfold leftL
    rw [hi, e]; simp
  | true =>
    have := hb rfl
    dsimp only at this
    have e : measL (p :: r) left deep n = measL r left deep (n + k) := by simp [measL, h]
    have e2 : left - leftI p (left - n) deep = n + k := by rw [hi]; simp only [if_true]; omega
    have e3 : 0 ≤ leftI p (left - n) deep := by rw [hi]; simp only [if_true]; omega
    rw [if_pos e3, e2]
    unfold leftL
    rw [e]
theorem left_bd (p : PT) (size deep : Int) : leftI p size deep = -1 ∨ (0 ≤ leftI p size deep ∧ leftI p size deep < size) := by
  unfold leftI
  by_cases h : (meas p size deep).2 = true
  · have hb := meas_bd p size deep h
    rw [if_pos h]; omega
  · rw [if_neg h]; exact .inl rfl
theorem left_may (p : PT) : (0 ≤ leftI p 65536 0 ↔ mayP p = true) ∧ (if leftI p 65536 0 < 0 then 0 else 65536 - leftI p 65536 0) = sizeP p := by
  unfold leftI mayP sizeP mayP
  by_cases h : (meas p 65536 0).2 = true
  · have hb := meas_bd p 65536 0 h
    rw [if_pos h, if_pos h]
    refine ⟨⟨fun _ => h, fun _ => by omega⟩, ?_⟩
    rw [if_neg (by omega)]; omega
  · rw [if_neg h, if_neg h]
    exact ⟨⟨fun e => by omega, fun e => absurd e h⟩, rfl⟩
end

section
open Go.RowKit
set_option maxRecDepth 100000
def LeftFor (p : PT) : Prop := ∀ (w : World) (v : Value) (size deep : Int), ArgP w p v → 0 ≤ size → size ≤ 65536 → 0 ≤ deep → deep ≤ 64 → Calls Tryd.prog 41 #[v, .int .i64 size, .int .i64 deep] w (RetB w (.int .i64 (leftI p size deep)))
theorem left_bad0 {k n : Int} {s : ByteArray} {l : List PT} {size deep : Int} (hd : deep ≤ 64) (hn : n = 0) (h : ¬ (goodP k n s l deep ∧ 0 ≤ size - 1 - s.size)) : leftI (.mk k 0 s l) size deep = -1 := by
  subst hn; exact left_bad hd h
theorem leftL_nil (left deep n : Int) : leftL [] left deep n = left - n := by simp [leftL, measL]
theorem leftL_bd : ∀ (l : List PT) (left deep n : Int), leftL l left deep n = -1 ∨ leftL l left deep n ≤ left - n
  | [], left, deep, n => by rw [leftL_nil]; omega
  | p :: r, left, deep, n => by
    rw [leftL_step]
    have h1 := left_bd p (left - n) deep
    have h2 := leftL_bd r left deep (left - leftI p (left - n) deep)
    split
    · omega
    · exact .inl rfl
set_option maxHeartbeats 4000000 in
theorem l_one (w : World) (n size deep : Int) (s : ByteArray) (l : List PT) (la : Option Addr) (lc : Nat) (hs : s.size ≤ 140737488355328) (hl : l.length ≤ 4398046511104) (h0 : 0 ≤ size) (h1 : size ≤ 65536) (_hd0 : 0 ≤ deep) (hd1 : deep ≤ 64)
    (ih : ∀ p ∈ l, LeftFor p) (hla : l ≠ [] → ∃ b' o', la = some ⟨b', o', none⟩ ∧ InPs w b' o' l) :
    Calls Tryd.prog 41 #[.agg #[.int .i64 1, .int .i64 n, .string s, .slice la l.length lc], .int .i64 size, .int .i64 deep] w (RetB w (.int .i64 (leftI (.mk 1 n s l) size deep))) := by
  have HL := Lib.hid hla
  have HI := Lib.hid ih
  clear hla ih
  go_enter Tryd.func41, Tryd.ntmps41
  go_wp2_with fail
  all_goals first
  | (have hbad : ¬ (goodP 1 n s l deep ∧ 0 ≤ size - 1 - (s.size : Int)) := by
      (rintro ⟨hg, hz⟩
       have hgg : n = 0 ∧ s.toList = [] ∧ l.length = 0 := by
         (rcases hg with ⟨e, h⟩ | ⟨e, h⟩ | ⟨e, h⟩ | ⟨e, h⟩ | ⟨e, h⟩ <;> first | exact h | (exfalso; omega))
       obtain ⟨g1, g2, g3⟩ := hgg
       first | omega | (simp_all; done) | (simp_all; omega))
     go_ret
     exact ⟨ret_int (Eq.symm (by first | exact left_bad hd1 hbad | exact left_bad0 hd1 (by assumption) hbad)), alloc_below _ _⟩)
  | (have hgg : n = 0 ∧ s.toList = [] ∧ l.length = 0 := by (first | (simp_all; done) | (simp_all; omega))
     have hz : 0 ≤ size - 1 - (s.size : Int) := by (first | omega | (simp_all; omega))
     have hgp : goodP 1 n s l deep := .inl ⟨rfl, hgg⟩
     have HE := Lib.hid (left_leaf (by decide) (l := l) (size := size) hgp hz)
     obtain rfl : l = [] := List.length_eq_zero_iff.1 (by omega)
     obtain rfl : n = 0 := by omega
     have hcell : (w.alloc (.cells #[.int .i64 1, .int .i64 0, .string s, .slice la 0 lc] 24)).cell? ⟨w.heap.size, 3, none⟩ = some (.slice la 0 lc) := (cells_new w _ _ _ _ _).2.2.2
     have hB0 : Below w.heap.size w (w.alloc (.cells #[.int .i64 1, .int .i64 0, .string s, .slice la 0 lc] 24)) := alloc_below _ _
     clear hgp hgg HI HL
     generalize (w.alloc (.cells #[.int .i64 1, .int .i64 0, .string s, .slice la 0 lc] 24)) = W at hcell hB0 ⊢
     have HB0 := Lib.hid hB0
     clear hB0
     go_loopw [1, 8] (fun zv iv wr => iv = .int .i64 0 ∧ zv = .int .i64 (size - 1 - (s.size : Int)) ∧ wr = W) (fun _ _ _ => 0)
     case atStart => exact ⟨rfl, rfl, rfl⟩
     case round =>
       obtain ⟨rfl, rfl, rfl⟩ := hrel
       go_wp2_with fail
       go_ret
       exact ⟨ret_int (Eq.symm HE.out), HB0.out⟩)
set_option maxHeartbeats 4000000 in
theorem l_two (w : World) (n size deep : Int) (s : ByteArray) (l : List PT) (la : Option Addr) (lc : Nat) (hs : s.size ≤ 140737488355328) (hl : l.length ≤ 4398046511104) (h0 : 0 ≤ size) (h1 : size ≤ 65536) (_hd0 : 0 ≤ deep) (hd1 : deep ≤ 64)
    (ih : ∀ p ∈ l, LeftFor p) (hla : l ≠ [] → ∃ b' o', la = some ⟨b', o', none⟩ ∧ InPs w b' o' l) :
    Calls Tryd.prog 41 #[.agg #[.int .i64 2, .int .i64 n, .string s, .slice la l.length lc], .int .i64 size, .int .i64 deep] w (RetB w (.int .i64 (leftI (.mk 2 n s l) size deep))) := by
  have HL := Lib.hid hla
  have HI := Lib.hid ih
  clear hla ih
  go_enter Tryd.func41, Tryd.ntmps41
  go_wp2_with fail
  all_goals first
  | (have hbad : ¬ (goodP 2 n s l deep ∧ 0 ≤ size - 1 - (s.size : Int)) := by
      (rintro ⟨hg, hz⟩
       have hgg : (n = 0 ∨ n = 1) ∧ s.toList = [] ∧ l.length = 0 := by
         (rcases hg with ⟨e, h⟩ | ⟨e, h⟩ | ⟨e, h⟩ | ⟨e, h⟩ | ⟨e, h⟩ <;> first | exact h | (exfalso; omega))
       obtain ⟨g1, g2, g3⟩ := hgg
       first | omega | (simp_all; done) | (simp_all; omega))
     go_ret
     exact ⟨ret_int (Eq.symm (by first | exact left_bad hd1 hbad | exact left_bad0 hd1 (by assumption) hbad)), alloc_below _ _⟩)
  | (have hgg : (n = 0 ∨ n = 1) ∧ s.toList = [] ∧ l.length = 0 := by (first | (simp_all; done) | (simp_all; omega))
     have hz : 0 ≤ size - 1 - (s.size : Int) := by (first | omega | (simp_all; omega))
     have hgp : goodP 2 n s l deep := .inr (.inl ⟨rfl, hgg⟩)
     have HE := Lib.hid (left_leaf (by decide) (l := l) (size := size) hgp hz)
     obtain rfl : l = [] := List.length_eq_zero_iff.1 (by omega)
     obtain rfl : n = 0 := by (first | omega | (simp_all; done))
     have hcell : (w.alloc (.cells #[.int .i64 2, .int .i64 0, .string s, .slice la 0 lc] 24)).cell? ⟨w.heap.size, 3, none⟩ = some (.slice la 0 lc) := (cells_new w _ _ _ _ _).2.2.2
     have hB0 : Below w.heap.size w (w.alloc (.cells #[.int .i64 2, .int .i64 0, .string s, .slice la 0 lc] 24)) := alloc_below _ _
     clear hgp hgg HI HL
     generalize (w.alloc (.cells #[.int .i64 2, .int .i64 0, .string s, .slice la 0 lc] 24)) = W at hcell hB0 ⊢
     have HB0 := Lib.hid hB0
     clear hB0
     go_loopw [1, 8] (fun zv iv wr => iv = .int .i64 0 ∧ zv = .int .i64 (size - 1 - (s.size : Int)) ∧ wr = W) (fun _ _ _ => 0)
     case atStart => exact ⟨rfl, rfl, rfl⟩
     case round =>
       obtain ⟨rfl, rfl, rfl⟩ := hrel
       go_wp2_with fail
       go_ret
       exact ⟨ret_int (Eq.symm HE.out), HB0.out⟩)
  | (have hgg : (n = 0 ∨ n = 1) ∧ s.toList = [] ∧ l.length = 0 := by (first | (simp_all; done) | (simp_all; omega))
     have hz : 0 ≤ size - 1 - (s.size : Int) := by (first | omega | (simp_all; omega))
     have hgp : goodP 2 n s l deep := .inr (.inl ⟨rfl, hgg⟩)
     have HE := Lib.hid (left_leaf (by decide) (l := l) (size := size) hgp hz)
     obtain rfl : l = [] := List.length_eq_zero_iff.1 (by omega)
     obtain rfl : n = 1 := by (first | omega | (simp_all; done))
     have hcell : (w.alloc (.cells #[.int .i64 2, .int .i64 1, .string s, .slice la 0 lc] 24)).cell? ⟨w.heap.size, 3, none⟩ = some (.slice la 0 lc) := (cells_new w _ _ _ _ _).2.2.2
     have hB0 : Below w.heap.size w (w.alloc (.cells #[.int .i64 2, .int .i64 1, .string s, .slice la 0 lc] 24)) := alloc_below _ _
     clear hgp hgg HI HL
     generalize (w.alloc (.cells #[.int .i64 2, .int .i64 1, .string s, .slice la 0 lc] 24)) = W at hcell hB0 ⊢
     have HB0 := Lib.hid hB0
     clear hB0
     go_loopw [1, 8] (fun zv iv wr => iv = .int .i64 0 ∧ zv = .int .i64 (size - 1 - (s.size : Int)) ∧ wr = W) (fun _ _ _ => 0)
     case atStart => exact ⟨rfl, rfl, rfl⟩
     case round =>
       obtain ⟨rfl, rfl, rfl⟩ := hrel
       go_wp2_with fail
       go_ret
       exact ⟨ret_int (Eq.symm HE.out), HB0.out⟩)
set_option maxHeartbeats 4000000 in
theorem l_three (w : World) (n size deep : Int) (s : ByteArray) (l : List PT) (la : Option Addr) (lc : Nat) (hs : s.size ≤ 140737488355328) (hl : l.length ≤ 4398046511104) (h0 : 0 ≤ size) (h1 : size ≤ 65536) (_hd0 : 0 ≤ deep) (hd1 : deep ≤ 64)
    (ih : ∀ p ∈ l, LeftFor p) (hla : l ≠ [] → ∃ b' o', la = some ⟨b', o', none⟩ ∧ InPs w b' o' l) :
    Calls Tryd.prog 41 #[.agg #[.int .i64 3, .int .i64 n, .string s, .slice la l.length lc], .int .i64 size, .int .i64 deep] w (RetB w (.int .i64 (leftI (.mk 3 n s l) size deep))) := by
  have HL := Lib.hid hla
  have HI := Lib.hid ih
  clear hla ih
  go_enter Tryd.func41, Tryd.ntmps41
  go_wp2_with fail
  all_goals first
  | (have hbad : ¬ (goodP 3 n s l deep ∧ 0 ≤ size - 1 - (s.size : Int)) := by
      (rintro ⟨hg, hz⟩
       have hgg : s.toList = [] ∧ l.length = 0 := by
         (rcases hg with ⟨e, h⟩ | ⟨e, h⟩ | ⟨e, h⟩ | ⟨e, h⟩ | ⟨e, h⟩ <;> first | exact h | (exfalso; omega))
       obtain ⟨g1, g2⟩ := hgg
       first | omega | (simp_all; done) | (simp_all; omega))
     go_ret
     exact ⟨ret_int (Eq.symm (by first | exact left_bad hd1 hbad | exact left_bad0 hd1 (by assumption) hbad)), alloc_below _ _⟩)
  | (have hgg : s.toList = [] ∧ l.length = 0 := by (first | (simp_all; done) | (simp_all; omega))
     have hz : 0 ≤ size - 1 - (s.size : Int) := by (first | omega | (simp_all; omega))
     have hgp : goodP 3 n s l deep := .inr (.inr (.inl ⟨rfl, hgg⟩))
     have HE := Lib.hid (left_leaf (by decide) (l := l) (size := size) hgp hz)
     obtain rfl : l = [] := List.length_eq_zero_iff.1 (by omega)
     skip
     have hcell : (w.alloc (.cells #[.int .i64 3, .int .i64 n, .string s, .slice la 0 lc] 24)).cell? ⟨w.heap.size, 3, none⟩ = some (.slice la 0 lc) := (cells_new w _ _ _ _ _).2.2.2
     have hB0 : Below w.heap.size w (w.alloc (.cells #[.int .i64 3, .int .i64 n, .string s, .slice la 0 lc] 24)) := alloc_below _ _
     clear hgp hgg HI HL
     generalize (w.alloc (.cells #[.int .i64 3, .int .i64 n, .string s, .slice la 0 lc] 24)) = W at hcell hB0 ⊢
     have HB0 := Lib.hid hB0
     clear hB0
     go_loopw [1, 8] (fun zv iv wr => iv = .int .i64 0 ∧ zv = .int .i64 (size - 1 - (s.size : Int)) ∧ wr = W) (fun _ _ _ => 0)
     case atStart => exact ⟨rfl, rfl, rfl⟩
     case round =>
       obtain ⟨rfl, rfl, rfl⟩ := hrel
       go_wp2_with fail
       go_ret
       exact ⟨ret_int (Eq.symm HE.out), HB0.out⟩)
set_option maxHeartbeats 4000000 in
theorem l_four (w : World) (n size deep : Int) (s : ByteArray) (l : List PT) (la : Option Addr) (lc : Nat) (hs : s.size ≤ 140737488355328) (hl : l.length ≤ 4398046511104) (h0 : 0 ≤ size) (h1 : size ≤ 65536) (_hd0 : 0 ≤ deep) (hd1 : deep ≤ 64)
    (ih : ∀ p ∈ l, LeftFor p) (hla : l ≠ [] → ∃ b' o', la = some ⟨b', o', none⟩ ∧ InPs w b' o' l) :
    Calls Tryd.prog 41 #[.agg #[.int .i64 4, .int .i64 n, .string s, .slice la l.length lc], .int .i64 size, .int .i64 deep] w (RetB w (.int .i64 (leftI (.mk 4 n s l) size deep))) := by
  have HL := Lib.hid hla
  have HI := Lib.hid ih
  clear hla ih
  go_enter Tryd.func41, Tryd.ntmps41
  go_wp2_with fail
  all_goals first
  | (have hbad : ¬ (goodP 4 n s l deep ∧ 0 ≤ size - 1 - (s.size : Int)) := by
      (rintro ⟨hg, hz⟩
       have hgg : n = 0 ∧ l.length = 0 := by
         (rcases hg with ⟨e, h⟩ | ⟨e, h⟩ | ⟨e, h⟩ | ⟨e, h⟩ | ⟨e, h⟩ <;> first | exact h | (exfalso; omega))
       obtain ⟨g1, g2⟩ := hgg
       first | omega | (simp_all; done) | (simp_all; omega))
     go_ret
     exact ⟨ret_int (Eq.symm (by first | exact left_bad hd1 hbad | exact left_bad0 hd1 (by assumption) hbad)), alloc_below _ _⟩)
  | (have hgg : n = 0 ∧ l.length = 0 := by (first | (simp_all; done) | (simp_all; omega))
     have hz : 0 ≤ size - 1 - (s.size : Int) := by (first | omega | (simp_all; omega))
     have hgp : goodP 4 n s l deep := .inr (.inr (.inr (.inl ⟨rfl, hgg⟩)))
     have HE := Lib.hid (left_leaf (by decide) (l := l) (size := size) hgp hz)
     obtain rfl : l = [] := List.length_eq_zero_iff.1 (by omega)
     obtain rfl : n = 0 := by omega
     have hcell : (w.alloc (.cells #[.int .i64 4, .int .i64 0, .string s, .slice la 0 lc] 24)).cell? ⟨w.heap.size, 3, none⟩ = some (.slice la 0 lc) := (cells_new w _ _ _ _ _).2.2.2
     have hB0 : Below w.heap.size w (w.alloc (.cells #[.int .i64 4, .int .i64 0, .string s, .slice la 0 lc] 24)) := alloc_below _ _
     clear hgp hgg HI HL
     generalize (w.alloc (.cells #[.int .i64 4, .int .i64 0, .string s, .slice la 0 lc] 24)) = W at hcell hB0 ⊢
     have HB0 := Lib.hid hB0
     clear hB0
     go_loopw [1, 8] (fun zv iv wr => iv = .int .i64 0 ∧ zv = .int .i64 (size - 1 - (s.size : Int)) ∧ wr = W) (fun _ _ _ => 0)
     case atStart => exact ⟨rfl, rfl, rfl⟩
     case round =>
       obtain ⟨rfl, rfl, rfl⟩ := hrel
       go_wp2_with fail
       go_ret
       exact ⟨ret_int (Eq.symm HE.out), HB0.out⟩)
set_option maxHeartbeats 4000000 in
theorem l_five (w : World) (n size deep : Int) (s : ByteArray) (l : List PT) (la : Option Addr) (lc : Nat) (hs : s.size ≤ 140737488355328) (hl : l.length ≤ 4398046511104) (h0 : 0 ≤ size) (h1 : size ≤ 65536) (_hd0 : 0 ≤ deep) (hd1 : deep ≤ 64)
    (ih : ∀ p ∈ l, LeftFor p) (hla : l ≠ [] → ∃ b' o', la = some ⟨b', o', none⟩ ∧ InPs w b' o' l) :
    Calls Tryd.prog 41 #[.agg #[.int .i64 5, .int .i64 n, .string s, .slice la l.length lc], .int .i64 size, .int .i64 deep] w (RetB w (.int .i64 (leftI (.mk 5 n s l) size deep))) := by
  have HL := Lib.hid hla
  have HI := Lib.hid ih
  clear hla ih
  go_enter Tryd.func41, Tryd.ntmps41
  go_wp2_with fail
  all_goals first
  | (have hbad : ¬ (goodP 5 n s l deep ∧ 0 ≤ size - 1 - (s.size : Int)) := by
      (rintro ⟨hg, hz⟩
       have hgg : n = 0 ∧ s.toList = [] ∧ deep < 64 := by
         (rcases hg with ⟨e, h⟩ | ⟨e, h⟩ | ⟨e, h⟩ | ⟨e, h⟩ | ⟨e, h⟩ <;> first | exact h | (exfalso; omega))
       obtain ⟨g1, g2, g3⟩ := hgg
       first | omega | (simp_all; done) | (simp_all; omega))
     go_ret
     exact ⟨ret_int (Eq.symm (by first | exact left_bad hd1 hbad | exact left_bad0 hd1 (by assumption) hbad)), alloc_below _ _⟩)
  | (have hgg : n = 0 ∧ s.toList = [] ∧ deep < 64 := by (first | (simp_all; done) | (simp_all; omega))
     have hz : 0 ≤ size - 1 - (s.size : Int) := by (first | omega | (simp_all; omega))
     have hgp : goodP 5 n s l deep := .inr (.inr (.inr (.inr ⟨rfl, hgg⟩)))
     obtain rfl : n = 0 := hgg.1
     have HE := Lib.hid (left_list (l := l) (size := size) hgp hz)
     have hcell : (w.alloc (.cells #[.int .i64 5, .int .i64 0, .string s, .slice la l.length lc] 24)).cell? ⟨w.heap.size, 3, none⟩ = some (.slice la l.length lc) := (cells_new w _ _ _ _ _).2.2.2
     have HDL : Hid (l ≠ [] → deep < 64) := Lib.hid (fun _ => hgg.2.2)
     have hst : leftI (.mk 5 0 s l) size deep = leftL l size (deep + 1) (size - (size - 1 - (s.size : Int))) := by
       (rw [HE.out, show size - (size - 1 - (s.size : Int)) = 1 from by rw [size_nil hgg.2.1]; omega])
     have HST := Lib.hid hst
     have hB0 : Below w.heap.size w (w.alloc (.cells #[.int .i64 5, .int .i64 0, .string s, .slice la l.length lc] 24)) := alloc_below _ _
     generalize (w.alloc (.cells #[.int .i64 5, .int .i64 0, .string s, .slice la l.length lc] 24)) = W at hcell hB0 ⊢
     obtain ⟨N, hN⟩ : ∃ N, N = w.heap.size := ⟨_, rfl⟩
     simp only [← hN] at hcell ⊢
     have HB0 := Lib.hid hB0
     generalize hac : size - 1 - (s.size : Int) = acc0 at hz HST ⊢
     have hac2 : acc0 < size := by omega
     clear hN hst HE hgp hgg hB0 hac
     go_loopw [1, 8] (fun zv iv wr => ∃ (i : Nat) (acc : Int), i ≤ l.length ∧ iv = .int .i64 i ∧ zv = .int .i64 acc ∧ (acc = -1 ∨ 0 ≤ acc) ∧ acc < size ∧ Hid (Below W.heap.size W wr) ∧
         Hid (leftI (.mk 5 0 s l) size deep = if 0 ≤ acc then leftL (l.drop i) size (deep + 1) (size - acc) else -1))
       (fun _ iv _ => l.length - (intOf iv).toNat)
     case atStart => exact ⟨0, acc0, by omega, rfl, rfl, .inr hz, hac2, Lib.hid (Below.refl _ _), Lib.hid (by rw [if_pos hz]; exact HST.out)⟩
     case round =>
       obtain ⟨i, acc, hi, rfl, rfl, hacc, haccs, hB, hR⟩ := hrel
       have hcr := cell_stepA hcell hB.out
       by_cases hlt : i < l.length
       · rcases hacc with rfl | hacc
         · go_wp2_with fail
           go_ret
           exact ⟨ret_int (Eq.symm (by have := hR.out; rw [if_neg (by omega)] at this; exact this)), HB0.out.trans (hB.out.mono HB0.out.size)⟩
         · obtain ⟨b', o', rfl, hin⟩ := HL.out (by intro h; subst h; simp at hlt)
           have hBw := HB0.out.trans (hB.out.mono HB0.out.size)
           have hp := InPs.get l b' o' i hlt (InPs.below hBw _ _ _ hin)
           rw [Nat.mul_comm] at hp
           obtain ⟨k1, n1, s1, la1, lc1, l1, e1, ⟨x0, x1, x2, x3⟩, hx⟩ := arg_of_in hp
           have hdd := HDL.out (by intro h; subst h; simp at hlt)
           have HC := Lib.hid (HI.out l[i] (List.getElem_mem hlt) wr _ acc (deep + 1) hx hacc (by omega) (by omega) (by omega))
           have hstep : leftL (l.drop i) size (deep + 1) (size - acc) = if 0 ≤ leftI l[i] acc (deep + 1) then leftL (l.drop (i + 1)) size (deep + 1) (size - leftI l[i] acc (deep + 1)) else -1 := by
             rw [List.drop_eq_getElem_cons hlt, leftL_step, show size - (size - acc) = acc from by omega]
           have hR2 := hR.out
           rw [if_pos hacc, hstep] at hR2
           have hbd := left_bd l[i] acc (deep + 1)
           generalize leftI l[i] acc (deep + 1) = z at HC hR2 hbd
           have HR2 := Lib.hid hR2
           clear hp hin hx hBw e1 hstep hR2 hdd
           go_wp2_with fail
           refine HC.out.mono ?_
           rintro e w1 ⟨rfl, hb1⟩
           have HB1 := Lib.hid (hB.out.trans (hb1.mono hB.out.size))
           clear hb1
           go_wp2_with fail
           go_roundw
           case rel => exact ⟨i + 1, z, by omega, by go_num, rfl, by omega, by omega, HB1, HR2⟩
           case measure => simp [intOf]; omega
       · obtain rfl : i = l.length := by omega
         have hR2 := hR.out
         rw [List.drop_length, leftL_nil] at hR2
         have HR2 : Hid (leftI (.mk 5 0 s l) size deep = acc) := Lib.hid (by rw [hR2]; split <;> omega)
         clear hR2 hacc
         go_wp2_with fail
         all_goals
           go_ret
           exact ⟨ret_int (Eq.symm HR2.out), HB0.out.trans (hB.out.mono HB0.out.size)⟩)
set_option maxHeartbeats 4000000 in
theorem l_none (k : Int) (w : World) (n size deep : Int) (s : ByteArray) (l : List PT) (la : Option Addr) (lc : Nat) (hs : s.size ≤ 140737488355328) (_hl : l.length ≤ 4398046511104) (h0 : 0 ≤ size) (h1 : size ≤ 65536) (_hd0 : 0 ≤ deep) (hd1 : deep ≤ 64)
    (ih : ∀ p ∈ l, LeftFor p) (hla : l ≠ [] → ∃ b' o', la = some ⟨b', o', none⟩ ∧ InPs w b' o' l) (hk1 : (k == 1) = false) (hk2 : (k == 2) = false) (hk3 : (k == 3) = false) (hk4 : (k == 4) = false) (hk5 : (k == 5) = false):
    Calls Tryd.prog 41 #[.agg #[.int .i64 k, .int .i64 n, .string s, .slice la l.length lc], .int .i64 size, .int .i64 deep] w (RetB w (.int .i64 (leftI (.mk k n s l) size deep))) := by
  have HL := Lib.hid hla
  have HI := Lib.hid ih
  clear hla ih
  go_enter Tryd.func41, Tryd.ntmps41
  go_wp2_with fail
  all_goals
    go_ret
    refine ⟨ret_int (Eq.symm (left_bad hd1 (fun hh => ?_))), alloc_below _ _⟩
    obtain ⟨hg, hz⟩ := hh
    simp only [beq_eq_false_iff_ne, ne_eq] at hk1 hk2 hk3 hk4 hk5
    rcases hg with ⟨e, _⟩ | ⟨e, _⟩ | ⟨e, _⟩ | ⟨e, _⟩ | ⟨e, _⟩
    · exact hk1 e
    · exact hk2 e
    · exact hk3 e
    · exact hk4 e
    · exact hk5 e
theorem left_step (k n : Int) (s : ByteArray) (l : List PT) (ih : ∀ p ∈ l, LeftFor p) : LeftFor (.mk k n s l) := by
  intro w v size deep hv h0 h1 hd0 hd1
  obtain ⟨hs, hl, la, lc, rfl, hla⟩ := hv
  by_cases h : k = 1
  · subst h; exact l_one w n size deep s l la lc hs hl h0 h1 hd0 hd1 ih hla
  by_cases h2 : k = 2
  · subst h2; exact l_two w n size deep s l la lc hs hl h0 h1 hd0 hd1 ih hla
  by_cases h3 : k = 3
  · subst h3; exact l_three w n size deep s l la lc hs hl h0 h1 hd0 hd1 ih hla
  by_cases h4 : k = 4
  · subst h4; exact l_four w n size deep s l la lc hs hl h0 h1 hd0 hd1 ih hla
  by_cases h5 : k = 5
  · subst h5; exact l_five w n size deep s l la lc hs hl h0 h1 hd0 hd1 ih hla
  exact l_none k w n size deep s l la lc hs hl h0 h1 hd0 hd1 ih hla (by simpa using h) (by simpa using h2) (by simpa using h3) (by simpa using h4) (by simpa using h5)
mutual
theorem left_any : ∀ p : PT, LeftFor p
  | .mk k n s l => left_step k n s l (left_anys l)
theorem left_anys : ∀ l : List PT, ∀ p ∈ l, LeftFor p
  | [], p, h => by simp at h
  | q :: r, p, h => by
    rcases List.mem_cons.1 h with h | h
    · rw [h]; exact left_any q
    · exact left_anys r p h
end
set_option maxHeartbeats 1000000 in
/-- The document's May. -/
theorem rmay_any (p : PT) (w : World) (v : Value) (hv : ArgP w p v) : Calls Tryd.prog 20 #[v] w (RetB w (.bool (mayP p))) := by
  cases p with
  | mk k n s l =>
    have g := hv
    obtain ⟨_, _, la, lc, rfl, _⟩ := g
    have HC := Lib.hid (left_any (.mk k n s l) _ _ 65536 0 (hv.below (alloc_below w (.cells #[.int .i64 k, .int .i64 n, .string s, .slice la l.length lc] 24))) (by omega) (by omega) (by omega) (by omega))
    have HM := Lib.hid (left_may (.mk k n s l)).1
    generalize leftI (.mk k n s l) 65536 0 = z at HC HM
    clear hv
    go_enter Tryd.func20, Tryd.ntmps20
    go_wp2_with fail
    refine HC.out.mono ?_
    rintro e w1 ⟨rfl, hb1⟩
    have HB1 := Lib.hid ((alloc_below w _).trans (hb1.mono (by simp)))
    clear hb1
    go_wp2_with fail
    go_ret
    refine ⟨?_, HB1.out⟩
    have hm := HM.out
    cases h : mayP (.mk k n s l)
    · rw [h] at hm
      have : ¬ (0 ≤ z) := fun e => by simpa using hm.1 e
      simp [this]
    · rw [h] at hm
      have : 0 ≤ z := hm.2 rfl
      simp [this]
set_option maxHeartbeats 1000000 in
/-- The document's Size. -/
theorem rsize_any (p : PT) (w : World) (v : Value) (hv : ArgP w p v) : Calls Tryd.prog 19 #[v] w (RetB w (.int .i64 (sizeP p))) := by
  cases p with
  | mk k n s l =>
    have g := hv
    obtain ⟨_, _, la, lc, rfl, _⟩ := g
    have HC := Lib.hid (left_any (.mk k n s l) _ _ 65536 0 (hv.below (alloc_below w (.cells #[.int .i64 k, .int .i64 n, .string s, .slice la l.length lc] 24))) (by omega) (by omega) (by omega) (by omega))
    have HM := Lib.hid (left_may (.mk k n s l)).2
    have hbd := left_bd (.mk k n s l) 65536 0
    generalize leftI (.mk k n s l) 65536 0 = z at HC HM hbd
    clear hv
    by_cases hz : z < 0
    · go_enter Tryd.func19, Tryd.ntmps19
      go_wp2_with fail
      refine HC.out.mono ?_
      rintro e w1 ⟨rfl, hb1⟩
      have HB1 := Lib.hid ((alloc_below w _).trans (hb1.mono (by simp)))
      clear hb1
      go_wp2_with fail
      go_ret
      exact ⟨ret_int (by have := HM.out; rw [if_pos hz] at this; exact this), HB1.out⟩
    · have hz' : 0 ≤ z ∧ z < 65536 := by omega
      obtain ⟨hz1, hz2⟩ := hz'
      clear hbd
      go_enter Tryd.func19, Tryd.ntmps19
      go_wp2_with fail
      refine HC.out.mono ?_
      rintro e w1 ⟨rfl, hb1⟩
      have HB1 := Lib.hid ((alloc_below w _).trans (hb1.mono (by simp)))
      clear hb1
      go_wp2_with fail
      go_ret
      exact ⟨ret_int (by have := HM.out; rw [if_neg (by omega)] at this; exact this), HB1.out⟩
end

section
open Go.RowKit
set_option maxRecDepth 100000
mutual
/-- A twin: each list that is no nil in a block of its own, a mark behind it; the blocks. -/
def TwP (w : World) : PT → List Value → List Nat → Prop
  | .mk k n s l, cs, bs => s.size ≤ 140737488355328 ∧ l.length ≤ 4398046511104 ∧ ∃ la lc, cs = [.int .i64 k, .int .i64 n, .string s, .slice la l.length lc] ∧
      ((la = none ∧ l = [] ∧ bs = []) ∨ ∃ b' xs bl, la = some ⟨b', 0, none⟩ ∧ lc = l.length + 1 ∧ (∀ j v, (xs ++ [.int .i64 (-7)])[j]? = some v → w.cell? ⟨b', j, none⟩ = some v) ∧ TwPs w l xs bl ∧ bs = b' :: bl)
def TwPs (w : World) : List PT → List Value → List Nat → Prop
  | [], xs, bs => xs = [] ∧ bs = []
  | p :: r, xs, bs => ∃ cs xr b br, xs = cs ++ xr ∧ bs = b ++ br ∧ TwP w p cs b ∧ TwPs w r xr br
end
theorem TwP.len {w : World} {p : PT} {cs : List Value} {bs : List Nat} (h : TwP w p cs bs) : cs.length = 4 := by
  cases p with
  | mk k n s l =>
    obtain ⟨_, _, la, lc, rfl, _⟩ := h
    rfl
theorem TwP.form {w : World} {p : PT} {cs : List Value} {bs : List Nat} (h : TwP w p cs bs) : ∃ k n s la ln lc, cs = [.int .i64 k, .int .i64 n, .string s, .slice la ln lc] := by
  cases p with
  | mk k n s l =>
    simp only [TwP] at h
    obtain ⟨h1, h2, la, lc, rfl, h4⟩ := h
    exact ⟨k, n, s, la, _, lc, rfl⟩
theorem TwPs.len {w : World} : ∀ {l : List PT} {xs : List Value} {bs : List Nat}, TwPs w l xs bs → xs.length = 4 * l.length
  | [], xs, bs, h => by rw [h.1]; rfl
  | p :: r, xs, bs, h => by
    obtain ⟨cs, xr, b, br, rfl, rfl, h1, h2⟩ := h
    rw [List.length_append, h1.len, TwPs.len h2, List.length_cons]
    omega
mutual
theorem TwP.keep {w w' : World} : ∀ (p : PT) (cs : List Value) (bs : List Nat), (∀ g ∈ bs, w'.heap[g]? = w.heap[g]?) → TwP w p cs bs → TwP w' p cs bs
  | .mk k n s l, cs, bs, hk, h => by
    simp only [TwP] at h ⊢
    obtain ⟨h1, h2, la, lc, h3, h4⟩ := h
    refine ⟨h1, h2, la, lc, h3, ?_⟩
    rcases h4 with h4 | ⟨b', xs, bl, h5, h6, h7, h8, rfl⟩
    · exact .inl h4
    · refine .inr ⟨b', xs, bl, h5, h6, fun j v hv => ?_, TwPs.keep l xs bl (fun g hg => hk g (by simp [hg])) h8, rfl⟩
      rw [cellOf_heap (hk b' (by simp))]
      exact h7 j v hv
theorem TwPs.keep {w w' : World} : ∀ (l : List PT) (xs : List Value) (bs : List Nat), (∀ g ∈ bs, w'.heap[g]? = w.heap[g]?) → TwPs w l xs bs → TwPs w' l xs bs
  | [], xs, bs, hk, h => h
  | p :: r, xs, bs, hk, h => by
    simp only [TwPs] at h ⊢
    obtain ⟨cs, xr, b, br, rfl, rfl, h1, h2⟩ := h
    exact ⟨cs, xr, b, br, rfl, rfl, TwP.keep p cs b (fun g hg => hk g (by simp [hg])) h1, TwPs.keep r xr br (fun g hg => hk g (by simp [hg])) h2⟩
end
mutual
theorem TwP.lt {w : World} : ∀ (p : PT) (cs : List Value) (bs : List Nat), TwP w p cs bs → ∀ g ∈ bs, g < w.heap.size
  | .mk k n s l, cs, bs, h, g, hg => by
    simp only [TwP] at h
    obtain ⟨h1, h2, la, lc, h3, h4⟩ := h
    rcases h4 with ⟨_, _, rfl⟩ | ⟨b', xs, bl, h5, h6, h7, h8, rfl⟩
    · simp at hg
    · rcases List.mem_cons.1 hg with rfl | hg
      · exact cell_lt (h7 xs.length (.int .i64 (-7)) (by simp))
      · exact TwPs.lt l xs bl h8 g hg
theorem TwPs.lt {w : World} : ∀ (l : List PT) (xs : List Value) (bs : List Nat), TwPs w l xs bs → ∀ g ∈ bs, g < w.heap.size
  | [], xs, bs, h, g, hg => by rw [h.2] at hg; simp at hg
  | p :: r, xs, bs, h, g, hg => by
    simp only [TwPs] at h
    obtain ⟨cs, xr, b, br, rfl, rfl, h1, h2⟩ := h
    rcases List.mem_append.1 hg with hg | hg
    · exact TwP.lt p cs b h1 g hg
    · exact TwPs.lt r xr br h2 g hg
end
theorem TwPs.snoc {w : World} : ∀ (l : List PT) (xs : List Value) (bs : List Nat) (p : PT) (cs : List Value) (b : List Nat), TwPs w l xs bs → TwP w p cs b → TwPs w (l ++ [p]) (xs ++ cs) (bs ++ b)
  | [], xs, bs, p, cs, b, h, hp => by
    obtain ⟨rfl, rfl⟩ := h
    exact ⟨cs, [], b, [], by simp, by simp, hp, rfl, rfl⟩
  | q :: r, xs, bs, p, cs, b, h, hp => by
    obtain ⟨cs', xr, b', br, rfl, rfl, h1, h2⟩ := h
    exact ⟨cs', xr ++ cs, b', br ++ b, by simp, by simp, h1, TwPs.snoc r xr br p cs b h2 hp⟩
theorem left_get {A B : List Value} {j : Nat} {v : Value} (h : A[j]? = some v) : (A ++ B)[j]? = some v := by
  rw [List.getElem?_append_left (by rcases Nat.lt_or_ge j A.length with h' | h'; exact h'; simp [List.getElem?_eq_none h'] at h)]
  exact h
mutual
theorem TwP.inP {w : World} : ∀ (p : PT) (cs : List Value) (bs : List Nat) (b o : Nat), TwP w p cs bs → (∀ j v, cs[j]? = some v → w.cell? ⟨b, o + j, none⟩ = some v) → InP w b o p
  | .mk k n s l, cs, bs, b, o, h, hc => by
    simp only [TwP] at h
    obtain ⟨h1, h2, la, lc, rfl, h4⟩ := h
    refine ⟨h1, h2, la, lc, ⟨hc 0 _ rfl, hc 1 _ rfl, hc 2 _ rfl, hc 3 _ rfl⟩, fun hl => ?_⟩
    rcases h4 with ⟨_, h4, _⟩ | ⟨b', xs, bl, h5, h6, h7, h8, rfl⟩
    · exact absurd h4 hl
    · exact ⟨b', 0, h5, TwPs.inPs l xs bl b' 0 h8 (fun j v hv => by rw [Nat.zero_add]; exact h7 j v (left_get hv))⟩
theorem TwPs.inPs {w : World} : ∀ (l : List PT) (xs : List Value) (bs : List Nat) (b o : Nat), TwPs w l xs bs → (∀ j v, xs[j]? = some v → w.cell? ⟨b, o + j, none⟩ = some v) → InPs w b o l
  | [], xs, bs, b, o, h, hc => trivial
  | p :: r, xs, bs, b, o, h, hc => by
    simp only [TwPs] at h
    obtain ⟨cs, xr, bp, br, rfl, rfl, h1, h2⟩ := h
    have hl := h1.len
    refine ⟨TwP.inP p cs bp b o h1 (fun j v hv => hc j v (left_get hv)), TwPs.inPs r xr br b (o + 4) h2 (fun j v hv => ?_)⟩
    have := hc (4 + j) v (by rw [List.getElem?_append_right (by omega), hl, Nat.add_sub_cancel_left]; exact hv)
    rw [Nat.add_assoc]; exact this
end
theorem TwP.arg {w : World} {p : PT} {cs : List Value} {bs : List Nat} (h : TwP w p cs bs) : ArgP w p (.agg cs.toArray) := by
  cases p with
  | mk k n s l =>
    simp only [TwP] at h
    obtain ⟨h1, h2, la, lc, rfl, h4⟩ := h
    refine ⟨h1, h2, la, lc, rfl, fun hl => ?_⟩
    rcases h4 with ⟨_, h4, _⟩ | ⟨b', xs, bl, h5, h6, h7, h8, rfl⟩
    · exact absurd h4 hl
    · exact ⟨b', 0, h5, TwPs.inPs l xs bl b' 0 h8 (fun j v hv => by rw [Nat.zero_add]; exact h7 j v (left_get hv))⟩
mutual
/-- No list is long. -/
def shortP : PT → Prop
  | .mk _ _ _ l => l.length ≤ 65536 ∧ shortPs l
def shortPs : List PT → Prop
  | [] => True
  | p :: r => shortP p ∧ shortPs r
end
theorem shortPs_get : ∀ (l : List PT) (i : Nat) (h : i < l.length), shortPs l → shortP l[i]
  | p :: r, 0, h, ho => ho.1
  | p :: r, i + 1, h, ho => shortPs_get r i (by simpa using h) ho.2
mutual
theorem may_short : ∀ (p : PT) (left deep : Int), left ≤ 65536 → (meas p left deep).2 = true → shortP p
  | .mk k n s l, left, deep, hl, h => by
    unfold meas at h
    split at h
    · simp at h
    · rename_i h0
      have hll : k ≠ 5 → l = [] := fun hk => List.length_eq_zero_iff.1 (by have := fun hn : 0 < l.length => h0 (.inr (.inr ⟨hk, hn⟩)); omega)
      by_cases hk : k = 5
      · subst hk
        rw [if_neg (by decide), if_neg (by decide), if_neg (by decide), if_neg (by decide), if_pos rfl] at h
        split at h
        · simp at h
        · have h1 := may_shorts l left (deep + 1) 1 (by omega) hl h
          have h2 := measL_bd l left (deep + 1) 1 (by omega) (by have := fun e : left < 1 => h0 (.inl e); omega) h
          exact ⟨by omega, h1.1⟩
      · rw [hll hk]
        exact ⟨by simp, trivial⟩
theorem may_shorts : ∀ (l : List PT) (left deep n : Int), 0 ≤ n → left ≤ 65536 → (measL l left deep n).2 = true → shortPs l ∧ n + (l.length : Int) ≤ (measL l left deep n).1
  | [], left, deep, n, hn, hl, h => by simp [shortPs, measL]
  | p :: r, left, deep, n, hn, hl, h => by
    simp only [measL] at h ⊢
    split at h
    · rename_i hp
      rw [if_pos hp]
      have h1 := may_short p (left - n) deep (by omega) hp
      have h2 := meas_bd p (left - n) deep hp
      have h3 := may_shorts r left deep _ (by omega) hl h
      exact ⟨⟨h1, h3.1⟩, by simp only [List.length_cons]; omega⟩
    · simp at h
end
def TwR (p : PT) (w : World) (e : Ending) (w' : World) : Prop := ∃ cs bs, e = .returned (.agg cs.toArray) ∧ TwP w' p cs bs ∧ (∀ g ∈ bs, w.heap.size ≤ g) ∧ Below w.heap.size w w'
def TwFor (p : PT) : Prop := ∀ (w : World) (v : Value), ArgP w p v → shortP p → Calls Tryd.prog 25 #[v] w (TwR p w)
@[go_sem] theorem sl_eq_nil (n c : Nat) (w : World) : (binOp .eql 22 (.slice none n c) (.slice none 0 0)).run Tryd.prog w = .ok (.bool true) w := by kernel_rfl
@[go_sem] theorem sl_eq_some (a : Addr) (n c : Nat) (w : World) : (binOp .eql 22 (.slice (some a) n c) (.slice none 0 0)).run Tryd.prog w = .ok (.bool false) w := by kernel_rfl
@[go_sem] theorem sl_ne_nil (n c : Nat) (w : World) : (binOp .neq 22 (.slice none n c) (.slice none 0 0)).run Tryd.prog w = .ok (.bool false) w := by kernel_rfl
@[go_sem] theorem sl_ne_some (a : Addr) (n c : Nat) (w : World) : (binOp .neq 22 (.slice (some a) n c) (.slice none 0 0)).run Tryd.prog w = .ok (.bool true) w := by kernel_rfl
theorem two_new (w : World) (a b c d a' b' c' d' : Value) (t t' : TypeId) : ((w.alloc (.cells #[a, b, c, d] t)).alloc (.cells #[a', b', c', d'] t')).heap[w.heap.size]? = some (.cells #[a, b, c, d] t (0, 0)) ∧
    ((w.alloc (.cells #[a, b, c, d] t)).alloc (.cells #[a', b', c', d'] t')).heap[w.heap.size + 1]? = some (.cells #[a', b', c', d'] t' (0, 0)) ∧
    Below w.heap.size w ((w.alloc (.cells #[a, b, c, d] t)).alloc (.cells #[a', b', c', d'] t')) ∧ ((w.alloc (.cells #[a, b, c, d] t)).alloc (.cells #[a', b', c', d'] t')).heap.size = w.heap.size + 2 := by
  have h1 := heap_alloc_new w (.cells #[a, b, c, d] t)
  have h2 := heap_alloc_new (w.alloc (.cells #[a, b, c, d] t)) (.cells #[a', b', c', d'] t')
  have e : (w.alloc (.cells #[a, b, c, d] t)).heap.size = w.heap.size + 1 := by simp
  rw [e] at h2
  exact ⟨by rw [Below.heap_alloc _ _ _ (by simp)]; exact h1, h2, (alloc_below w _).alloc (by simp) _, by simp⟩
set_option maxHeartbeats 1000000 in
theorem tw_nil (k n : Int) (s : ByteArray) (lc : Nat) (w : World) (hs : s.size ≤ 140737488355328) : Calls Tryd.prog 25 #[.agg #[.int .i64 k, .int .i64 n, .string s, .slice none 0 lc]] w (TwR (.mk k n s []) w) := by
  go_enter Tryd.func25, Tryd.ntmps25
  go_wp2_with fail
  refine bodyPost_ret (v := .agg #[.int .i64 k, .int .i64 n, .string s, .slice none 0 lc]) (by simp [results, Tryd.results25, go_sem]) rfl ?_
  exact ⟨[.int .i64 k, .int .i64 n, .string s, .slice none 0 lc], [], rfl, ⟨hs, by simp, none, lc, rfl, .inl ⟨rfl, rfl, rfl⟩⟩, by simp, (alloc_below w _).alloc (by simp) _⟩
set_option maxHeartbeats 4000000 in
theorem tw_list (k n : Int) (s : ByteArray) (l : List PT) (a : Addr) (lc : Nat) (w : World) (hs : s.size ≤ 140737488355328) (hl : l.length ≤ 65536) (ih : ∀ p ∈ l, TwFor p) (hsh : shortPs l)
    (hla : l ≠ [] → ∃ b' o', (some a : Option Addr) = some ⟨b', o', none⟩ ∧ InPs w b' o' l) :
    Calls Tryd.prog 25 #[.agg #[.int .i64 k, .int .i64 n, .string s, .slice (some a) l.length lc]] w (TwR (.mk k n s l) w) := by
  have HL := Lib.hid hla
  have HI := Lib.hid ih
  have HSH := Lib.hid hsh
  have HLN := Lib.hid hl
  obtain ⟨i0, hi, hz0, hz1, hz2⟩ := info_parts info24
  have HZ1 := Lib.hid hz1; clear hz1
  have HZ2 := Lib.hid hz2; clear hz2
  have HZ0 := Lib.hid hz0; clear hz0
  have HI0 := Lib.hid hi; clear hi
  clear hla ih hsh
  have hT := two_new w (.int .i64 k) (.int .i64 n) (.string s) (.slice (some a) l.length lc) (.int .i64 0) (.int .i64 0) (.string ⟨#[]⟩) (.slice none 0 0) 24 24
  go_enter Tryd.func25, Tryd.ntmps25
  go_wp2_with (at_make; refine wpList_make_own _ rfl _ _ 22 rfl (w.heap.size + 2) 24 i0 _ 4 Tryd.underlying22 HI0.out HZ0.out HZ1.out .i64 .i64 _ (l.length + 1) rfl rfl rfl (by rw [HZ2.out]; omega) (by unfold maxLen; omega) (by simp) ?_; intro w0 hown0 hgrow0)
  have hB0 : Below (w.heap.size + 2) ((w.alloc (.cells #[.int .i64 k, .int .i64 n, .string s, .slice (some a) l.length lc] 24)).alloc (.cells #[.int .i64 0, .int .i64 0, .string ⟨#[]⟩, .slice none 0 0] 24)) w0 := (Below.refl _ _).grown hgrow0 (by simp) (by simp)
  obtain ⟨hT1, hT2, hT3, hTs⟩ := hT
  have h1 : w0.heap[w.heap.size]? = some (.cells #[.int .i64 k, .int .i64 n, .string s, .slice (some a) l.length lc] 24 (0, 0)) := (hB0.block _ (by omega)).trans hT1
  have h2 : w0.heap[w.heap.size + 1]? = some (.cells #[.int .i64 0, .int .i64 0, .string ⟨#[]⟩, .slice none 0 0] 24 (0, 0)) := (hB0.block _ (by omega)).trans hT2
  have hBw : Below w.heap.size w w0 := hT3.trans (hB0.mono (by omega))
  have hs0 : w.heap.size + 3 ≤ w0.heap.size := by have := (hown0.lt _ rfl).2; simp at this; omega
  rw [hTs] at hown0
  obtain ⟨M, hM⟩ : ∃ M, M = w.heap.size := ⟨_, rfl⟩
  simp only [← hM] at h1 h2 hown0 hs0 ⊢
  have HM := Lib.hid hM
  have HB0 := Lib.hid hBw
  have HO0 := Lib.hid hown0
  have H1 := Lib.hid h1
  have H2 := Lib.hid h2
  have HS0 := Lib.hid hs0
  clear hM hBw hown0 h1 h2 hT1 hT2 hT3 hTs hB0 hgrow0 hs0
  go_loopw [3, 4] (fun sv iv wr => ∃ (i : Nat) (xs : List Value) (bs : List Nat), i ≤ l.length ∧ iv = .int .i64 i ∧ sv = .slice (some ⟨M + 2, 0, none⟩) i (l.length + 1) ∧
      Hid (wr.ownsRow (M + 2) 24 4 (.slice (some ⟨M + 2, 0, none⟩) i (l.length + 1)) i xs) ∧ Hid (TwPs wr (l.take i) xs bs) ∧ Hid (∀ g ∈ bs, M + 2 < g) ∧ Hid (Below (M + 2) w0 wr) ∧ Hid (M + 3 ≤ wr.heap.size))
    (fun _ iv _ => l.length - (intOf iv).toNat)
  case atStart => exact ⟨0, [], [], by omega, rfl, rfl, HO0, Lib.hid ⟨rfl, rfl⟩, Lib.hid (by simp), Lib.hid (Below.refl _ _), HS0⟩
  case round =>
    obtain ⟨i, xs, bs, hil, rfl, rfl, how, htw, hgt, hB, hsz⟩ := hrel
    have k1 := (heapcell ((hB.out.block M (by omega)).trans H1.out) 3).1
    have hBw : Below w.heap.size w wr := HB0.out.trans (hB.out.mono (by have := HM.out; omega))
    have HBw := Lib.hid hBw
    by_cases hlt : i < l.length
    · obtain ⟨b', o', ha, hin⟩ := HL.out (by intro h; subst h; simp at hlt)
      simp only [Option.some.injEq] at ha
      subst ha
      have hp := InPs.get l b' o' i hlt (InPs.below hBw _ _ _ hin)
      rw [Nat.mul_comm] at hp
      obtain ⟨q1, q2, q3, q4, q5, q6, e1, ⟨x0, x1, x2, x3⟩, hx⟩ := arg_of_in hp
      have HC := Lib.hid (HI.out l[i] (List.getElem_mem hlt) wr _ hx (shortPs_get l i hlt HSH.out))
      clear hp hin hx e1 hBw
      go_wp2_with fail
      refine HC.out.mono ?_
      rintro e w1 ⟨cs, cb, rfl, hh, hge, hb1⟩
      obtain ⟨k9, n9, s9, la9, ln9, lc9, rfl⟩ := hh.form
      have HH := Lib.hid hh
      have HGE := Lib.hid hge
      have HB1 := Lib.hid hb1
      have HO1 : Hid (w1.ownsRow (M + 2) 24 4 (.slice (some ⟨M + 2, 0, none⟩) i (l.length + 1)) i xs) := ownsRow_keep how.out (fun g hg => by obtain rfl : M + 2 = g := (by simpa [Value.ownBlock] using hg); exact hb1.block _ (by have := hsz.out; omega))
      clear hh hge hb1
      go_wp2_with (at_builtin; refine wpList_append_fits _ rfl _ _ 22 rfl (M + 2) 24 i0 4 Tryd.underlying22 HI0.out HZ1.out (M + 2) i (l.length + 1) xs rfl ((HO1.out.alloc _).alloc _) ⟨w1.heap.size + 1, 0, none⟩ 1 1 [.int .i64 k9, .int .i64 n9, .string s9, .slice la9 ln9 lc9] rfl rfl ?c1 ?c2 (by omega) ?_)
      case c1 =>
        have h1 := four_new (w1.alloc (.cells #[.int .i64 k9, .int .i64 n9, .string s9, .slice la9 ln9 lc9] 24)) (.int .i64 k9) (.int .i64 n9) (.string s9) (.slice la9 ln9 lc9) 24
        rw [show (w1.alloc (.cells #[.int .i64 k9, .int .i64 n9, .string s9, .slice la9 ln9 lc9] 24)).heap.size = w1.heap.size + 1 from by simp] at h1
        exact h1
      case c2 => intro u hu; simp at hu; rcases hu with rfl | rfl | rfl | rfl <;> rfl
      intro w2 hown2 hgrow2
      have HO2 := Lib.hid hown2
      have HG2 := Lib.hid hgrow2
      clear hown2 hgrow2 k1
      go_wp2_with fail
      go_roundw
      case rel =>
        have hg2 := HG2.out
        have hsz' := hsz.out
        have hs1 := HB1.out.size
        have hold : ∀ b, b < w1.heap.size → b ≠ M + 2 → w2.heap[b]? = w1.heap[b]? := fun b hb hn =>
          ((hg2.block b (by simp; omega) (by simpa using hn)).trans (Below.heap_alloc _ _ _ (by simp; omega))).trans (Below.heap_alloc _ _ _ hb)
        have hh2 : TwPs w2 (l.take (i + 1)) (xs ++ [.int .i64 k9, .int .i64 n9, .string s9, .slice la9 ln9 lc9]) (bs ++ cb) := by
          rw [List.take_succ_eq_append_getElem hlt]
          refine TwPs.snoc _ _ _ _ _ _ (TwPs.keep _ _ _ (fun b hb => ?_) htw.out) (TwP.keep _ _ _ (fun b hb => ?_) HH.out)
          · have h5 := hgt.out b hb
            have h6 := TwPs.lt _ _ _ htw.out b hb
            rw [hold b (by omega) (by omega)]
            exact HB1.out.block b h6
          · have h5 := HGE.out b hb
            have h6 := TwP.lt _ _ _ HH.out b hb
            exact hold b h6 (by omega)
        refine ⟨i + 1, _, _, by omega, by go_num, rfl, HO2, Lib.hid hh2, Lib.hid (fun b hb => ?_), Lib.hid ?_, Lib.hid ?_⟩
        · rcases List.mem_append.1 hb with hb | hb
          · exact hgt.out b hb
          · have h5 := HGE.out b hb; omega
        · exact ((((hB.out.trans (HB1.out.mono (by omega))).alloc (by omega) _).alloc (by simp; omega) _).grown hg2 (by simp; omega) (by simp))
        · have := hg2.size
          simp at this
          omega
      case measure => simp [intOf]; omega
    · obtain rfl : i = l.length := by omega
      have hsub : ((l.length : Int) + 1) - 1 = (l.length : Int) := by omega
      have hsub2 : (l.length : Int) ≤ (l.length : Int) + 1 := by omega
      go_wp2_with (at_builtin; refine wpList_append_fits _ rfl _ _ 22 rfl (M + 2) 24 i0 4 Tryd.underlying22 HI0.out HZ1.out (M + 2) l.length (l.length + 1) xs rfl (how.out.alloc _) ⟨wr.heap.size, 0, none⟩ 1 1 [.int .i64 (-7), .int .i64 0, .string ⟨#[]⟩, .slice none 0 0] rfl rfl (four_new _ _ _ _ _ _) ?c2 (by omega) ?_)
      case c2 => intro u hu; simp at hu; rcases hu with rfl | rfl | rfl | rfl <;> rfl
      intro w2 hown2 hgrow2
      have hsz' := hsz.out
      have hold : ∀ b, b < wr.heap.size → b ≠ M + 2 → w2.heap[b]? = wr.heap[b]? := fun b hb hn =>
          (hgrow2.block b (by simp; omega) (by simpa using hn)).trans (Below.heap_alloc _ _ _ hb)
      have j1 := (hold M (by omega) (by omega)).trans ((hB.out.block M (by omega)).trans H1.out)
      have j2 := (hold (M + 1) (by omega) (by omega)).trans ((hB.out.block (M + 1) (by omega)).trans H2.out)
      have HB2 := Lib.hid ((hB.out.alloc (by omega) _).grown hgrow2 (by simp; omega) (by simp))
      have HO2 := Lib.hid hown2
      have HH2 := Lib.hid (TwPs.keep (w' := w2) _ _ _ (fun b hb => hold b (TwPs.lt _ _ _ htw.out b hb) (by have := hgt.out b hb; omega)) htw.out)
      have hs2 := hgrow2.size
      simp at hs2
      have HS2 := Lib.hid hs2
      obtain ⟨p0, f0⟩ := heapcell j1 0
      obtain ⟨p1, f1⟩ := heapcell j1 1
      obtain ⟨p2, f2⟩ := heapcell j1 2
      obtain ⟨p3, f3⟩ := heapcell j1 3
      obtain ⟨r0, g0⟩ := heapcell j2 0
      obtain ⟨r1, g1⟩ := heapcell j2 1
      obtain ⟨r2, g2⟩ := heapcell j2 2
      obtain ⟨r3, g3⟩ := heapcell j2 3
      clear hold j1 j2 hown2 hgrow2 hs2 hsz' k1 hBw
      go_wp2_with fail
      refine bodyPost_ret (v := .agg #[.int .i64 k, .int .i64 n, .string s, .slice (some ⟨M + 2, 0, none⟩) l.length (l.length + 1)]) (by simp [results, Tryd.results25, go_sem, r0, r1, r2, r3]) rfl ?_
      have hm := HM.out
      have hln := HLN.out
      have hw4 : ∀ b, b ≠ M → b ≠ M + 1 → (((((w2.setCell ⟨M, 3, none⟩ (.slice (some ⟨M + 2, 0, none⟩) l.length (l.length + 1))).setCell ⟨M + 1, 0, none⟩ (.int .i64 k)).setCell ⟨M + 1, 1, none⟩ (.int .i64 n)).setCell ⟨M + 1, 2, none⟩ (.string s)).setCell ⟨M + 1, 3, none⟩ (.slice (some ⟨M + 2, 0, none⟩) l.length (l.length + 1))).heap[b]? = w2.heap[b]? := fun b hb hb1 => by
        rw [heap_set_ne _ hb1, heap_set_ne _ hb1, heap_set_ne _ hb1, heap_set_ne _ hb1, heap_set_ne _ hb]
      have hB2 := HB0.out.trans (HB2.out.mono (by omega))
      have hcells := HO2.out.cells (g := M + 2) rfl
      have hxl := HH2.out.len
      rw [List.take_length] at hxl
      refine ⟨[.int .i64 k, .int .i64 n, .string s, .slice (some ⟨M + 2, 0, none⟩) l.length (l.length + 1)], (M + 2) :: bs, rfl, ⟨hs, by omega, some ⟨M + 2, 0, none⟩, l.length + 1, rfl, .inr ⟨M + 2, xs, bs, rfl, rfl, fun j v hv => ?_, ?_, rfl⟩⟩, fun b hb => ?_, ?_⟩
      · rw [cellOf_heap (hw4 (M + 2) (by omega) (by omega))]
        have := hcells j v (by
          rw [show ([.int .i64 (-7), .int .i64 0, .string ⟨#[]⟩, .slice none 0 0] : List Value) = [.int .i64 (-7)] ++ [.int .i64 0, .string ⟨#[]⟩, .slice none 0 0] from rfl, ← List.append_assoc]
          exact left_get hv)
        rwa [show (⟨M + 2, 0, none⟩ : Addr).add j = ⟨M + 2, j, none⟩ from by unfold Addr.add; split <;> simp_all] at this
      · have hh := HH2.out
        rw [List.take_length] at hh
        exact TwPs.keep _ _ _ (fun b hb => hw4 b (by have := hgt.out b hb; omega) (by have := hgt.out b hb; omega)) hh
      · rcases List.mem_cons.1 hb with rfl | hb
        · omega
        · have := hgt.out b hb; omega
      · exact ⟨hB2.os, hB2.tape, hB2.output, by have := hB2.size; simpa [World.setCell] using this, fun b hb => (hw4 b (by omega) (by omega)).trans (hB2.block b hb)⟩
mutual
/-- 'Twin': a plain value in memory of its own, a mark behind each list. -/
theorem tw_any : ∀ p : PT, TwFor p
  | .mk k n s l => fun w v hv hsh => by
    obtain ⟨hs, _, la, lc, rfl, hla⟩ := hv
    cases la with
    | none =>
      have hl : l = [] := Classical.byContradiction fun h => by
        obtain ⟨_, _, e, _⟩ := hla h
        cases e
      subst hl
      exact tw_nil k n s lc w hs
    | some a => exact tw_list k n s l a lc w hs hsh.1 (tw_anys l) hsh.2 hla
theorem tw_anys : ∀ l : List PT, ∀ p ∈ l, TwFor p
  | [], p, h => by simp at h
  | q :: r, p, h => by
    rcases List.mem_cons.1 h with h | h
    · rw [h]; exact tw_any q
    · exact tw_anys r p h
end
end

section
open Go.RowKit
set_option maxRecDepth 100000
theorem TwPs.get {w : World} : ∀ (l : List PT) (xs : List Value) (bs : List Nat), TwPs w l xs bs → ∀ i (h : i < l.length), ∃ k n s la ln lc b, TwP w l[i] [.int .i64 k, .int .i64 n, .string s, .slice la ln lc] b ∧
    xs[i * 4]? = some (.int .i64 k) ∧ xs[i * 4 + 1]? = some (.int .i64 n) ∧ xs[i * 4 + 2]? = some (.string s) ∧ xs[i * 4 + 3]? = some (.slice la ln lc)
  | p :: r, xs, bs, h, 0, hi => by
    obtain ⟨cs, xr, b, br, rfl, rfl, h1, h2⟩ := h
    obtain ⟨k, n, s, la, ln, lc, rfl⟩ := h1.form
    exact ⟨k, n, s, la, ln, lc, b, h1, by simp, by simp, by simp, by simp⟩
  | p :: r, xs, bs, h, i + 1, hi => by
    obtain ⟨cs, xr, b, br, rfl, rfl, h1, h2⟩ := h
    obtain ⟨k, n, s, la, ln, lc, b', h3, e0, e1, e2, e3⟩ := TwPs.get r xr br h2 i (by simpa using hi)
    have hl := h1.len
    have sh : ∀ j, (cs ++ xr)[(i + 1) * 4 + j]? = xr[i * 4 + j]? := fun j => by
      rw [List.getElem?_append_right (by omega), hl]
      congr 1; omega
    exact ⟨k, n, s, la, ln, lc, b', h3, (sh 0).trans e0, (sh 1).trans e1, (sh 2).trans e2, (sh 3).trans e3⟩
def MkFor (p : PT) : Prop := ∀ (w : World) (cs : List Value) (bs : List Nat), TwP w p cs bs → shortP p → Calls Tryd.prog 43 #[.agg cs.toArray] w (RetB w (.bool true))
set_option maxHeartbeats 2000000 in
theorem mk_nil (k n : Int) (s : ByteArray) (lc : Nat) (w : World) : Calls Tryd.prog 43 #[.agg #[.int .i64 k, .int .i64 n, .string s, .slice none 0 lc]] w (RetB w (.bool true)) := by
  go_enter Tryd.func43, Tryd.ntmps43
  go_wp2_with fail
  go_loopw [4] (fun iv wr => iv = .int .i64 0 ∧ wr = (w.alloc (.cells #[.int .i64 k, .int .i64 n, .string s, .slice none 0 lc] 24))) (fun _ _ => 0)
  case atStart => exact ⟨rfl, rfl⟩
  case round =>
    obtain ⟨rfl, rfl⟩ := hrel
    go_wp2_with fail
    go_ret
    exact ⟨rfl, alloc_below w _⟩
set_option maxHeartbeats 4000000 in
theorem mk_list (k n : Int) (s : ByteArray) (l : List PT) (b' : Nat) (xs : List Value) (bl : List Nat) (w : World) (hl : l.length ≤ 65536) (ih : ∀ p ∈ l, MkFor p) (hsh : shortPs l)
    (hc : ∀ j v, (xs ++ [.int .i64 (-7)])[j]? = some v → w.cell? ⟨b', j, none⟩ = some v) (htw : TwPs w l xs bl) :
    Calls Tryd.prog 43 #[.agg #[.int .i64 k, .int .i64 n, .string s, .slice (some ⟨b', 0, none⟩) l.length (l.length + 1)]] w (RetB w (.bool true)) := by
  have hxl := htw.len
  have hm : w.cell? ⟨b', l.length * 4, none⟩ = some (.int .i64 (-7)) := by
    have := hc (l.length * 4) (.int .i64 (-7)) (by rw [List.getElem?_append_right (by omega), hxl]; simp [Nat.mul_comm])
    exact this
  have hcell := (heapcell (heap_alloc_new w (.cells #[.int .i64 k, .int .i64 n, .string s, .slice (some ⟨b', 0, none⟩) l.length (l.length + 1)] 24)) 3).1
  have hcell' : (w.alloc (.cells #[.int .i64 k, .int .i64 n, .string s, .slice (some ⟨b', 0, none⟩) l.length (l.length + 1)] 24)).cell? ⟨w.heap.size, 3, none⟩ = some (.slice (some ⟨b', 0, none⟩) l.length (l.length + 1)) := hcell
  have hm' := cell_stepA hm (alloc_below w (.cells #[.int .i64 k, .int .i64 n, .string s, .slice (some ⟨b', 0, none⟩) l.length (l.length + 1)] 24))
  have HC := Lib.hid hc
  have HT := Lib.hid htw
  have HI := Lib.hid ih
  have HSH := Lib.hid hsh
  have HB0 := Lib.hid (alloc_below w (.cells #[.int .i64 k, .int .i64 n, .string s, .slice (some ⟨b', 0, none⟩) l.length (l.length + 1)] 24))
  clear hc htw ih hsh hcell hm hxl
  have q1 : ¬ ((l.length : Int) + 1 ≤ (l.length : Int)) := by omega
  have q2 : (l.length : Int) < (l.length : Int) + 1 := by omega
  have q3 : (0 : Int) ≤ (l.length : Int) + 1 := by omega
  have q4 : (0 : Int) ≤ (l.length : Int) := by omega
  go_enter Tryd.func43, Tryd.ntmps43
  go_wp2_with fail
  generalize (w.alloc (.cells #[.int .i64 k, .int .i64 n, .string s, .slice (some ⟨b', 0, none⟩) l.length (l.length + 1)] 24)) = W at hcell' HB0 ⊢
  clear hm'
  go_loopw [4] (fun iv wr => ∃ (i : Nat), i ≤ l.length ∧ iv = .int .i64 i ∧ Hid (Below W.heap.size W wr)) (fun iv _ => l.length - (intOf iv).toNat)
  case atStart => exact ⟨0, by omega, rfl, Lib.hid (Below.refl _ _)⟩
  case round =>
    obtain ⟨i, hi, rfl, hB⟩ := hrel
    by_cases hlt : i < l.length
    · have hcr := cell_stepA hcell' hB.out
      have hBw := HB0.out.trans (hB.out.mono HB0.out.size)
      obtain ⟨k9, n9, s9, la9, ln9, lc9, b9, h9, e0, e1, e2, e3⟩ := TwPs.get l xs bl HT.out i hlt
      have x0 := cell_stepA (HC.out _ _ (left_get e0)) hBw
      have x1 := cell_stepA (HC.out _ _ (left_get e1)) hBw
      have x2 := cell_stepA (HC.out _ _ (left_get e2)) hBw
      have x3 := cell_stepA (HC.out _ _ (left_get e3)) hBw
      have HCALL := Lib.hid (HI.out l[i] (List.getElem_mem hlt) wr _ b9 (TwP.keep _ _ _ (fun g hg => hBw.block g (TwP.lt _ _ _ h9 g hg)) h9) (shortPs_get l i hlt HSH.out))
      clear e0 e1 e2 e3 h9 hBw
      go_wp2_with fail
      refine HCALL.out.mono ?_
      rintro e w1 ⟨rfl, hb1⟩
      have HB1 := Lib.hid (hB.out.trans (hb1.mono hB.out.size))
      clear hb1
      go_wp2_with fail
      go_roundw
      case rel => exact ⟨i + 1, by omega, by go_num, HB1⟩
      case measure => simp [intOf]; omega
    · obtain rfl : i = l.length := by omega
      go_wp2_with fail
      go_ret
      exact ⟨rfl, HB0.out.trans (hB.out.mono HB0.out.size)⟩
mutual
theorem mk_any : ∀ p : PT, MkFor p
  | .mk k n s l => fun w cs bs h hsh => by
    simp only [TwP] at h
    obtain ⟨_, _, la, lc, rfl, h4⟩ := h
    rcases h4 with ⟨rfl, rfl, _⟩ | ⟨b', xs, bl, rfl, rfl, h7, h8, _⟩
    · exact mk_nil k n s lc w
    · exact mk_list k n s l b' xs bl w hsh.1 (mk_anys l) hsh.2 h7 h8
theorem mk_anys : ∀ l : List PT, ∀ p ∈ l, MkFor p
  | [], p, h => by simp at h
  | q :: r, p, h => by
    rcases List.mem_cons.1 h with h | h
    · rw [h]; exact mk_any q
    · exact mk_anys r p h
end
set_option maxHeartbeats 2000000 in
/-- 'Kept': the twin is what it was, its marks too. -/
theorem kept_any (p : PT) (w : World) (cs : List Value) (bs : List Nat) (u : Value) (h : TwP w p cs bs) (hu : ArgP w p u) (hsh : shortP p) : Calls Tryd.prog 27 #[.agg cs.toArray, u] w (RetB w (.bool true)) := by
  cases p with
  | mk k0 n0 s0 l0 =>
  have g := hu
  obtain ⟨_, _, la0, lc0, rfl, _⟩ := g
  have ha := h.arg
  obtain ⟨k, n, s, la, ln, lc, rfl⟩ := h.form
  have hT := two_new w (.int .i64 k) (.int .i64 n) (.string s) (.slice la ln lc) (.int .i64 k0) (.int .i64 n0) (.string s0) (.slice la0 l0.length lc0) 24 24
  have HA := Lib.hid ha
  have HU := Lib.hid hu
  have HH := Lib.hid h
  have HSH := Lib.hid hsh
  clear ha hu h hsh
  go_enter Tryd.func27, Tryd.ntmps27
  go_wp2_with fail
  generalize ((w.alloc (.cells #[.int .i64 k, .int .i64 n, .string s, .slice la ln lc] 24)).alloc (.cells #[.int .i64 k0, .int .i64 n0, .string s0, .slice la0 l0.length lc0] 24)) = W at hT ⊢
  obtain ⟨h1, h2, hB, hs⟩ := hT
  have HB := Lib.hid hB
  refine (eq_any (.mk k0 n0 s0 l0) W _ _ (HA.out.below hB) (HU.out.below hB)).mono ?_
  rintro e w1 ⟨rfl, hb1⟩
  have hlt : w.heap.size < W.heap.size := by omega
  obtain ⟨N, hN⟩ : ∃ N, N = w.heap.size := ⟨_, rfl⟩
  rw [← hN] at h1 hlt ⊢
  have h1' := (hb1.block N hlt).trans h1
  obtain ⟨p0, _⟩ := heapcell h1' 0
  obtain ⟨p1, _⟩ := heapcell h1' 1
  obtain ⟨p2, _⟩ := heapcell h1' 2
  obtain ⟨p3, _⟩ := heapcell h1' 3
  have HB1 := Lib.hid (hB.trans (hb1.mono hB.size))
  clear h1 h2 h1' hB hb1 hN hlt hs
  go_wp2_with fail
  refine (mk_any (.mk k0 n0 s0 l0) w1 [.int .i64 k, .int .i64 n, .string s, .slice la ln lc] bs (TwP.keep _ _ _ (fun g hg => HB1.out.block g (TwP.lt _ _ _ HH.out g hg)) HH.out) HSH.out).mono ?_
  rintro e w2 ⟨rfl, hb2⟩
  have HB2 := Lib.hid (HB1.out.trans (hb2.mono HB1.out.size))
  clear hb2
  go_wp2_with fail
  go_ret
  exact ⟨rfl, HB2.out⟩
end

section
open Go.RowKit
set_option maxRecDepth 100000
/-- But for these blocks all stands. -/
structure KBs (bs : List Nat) (w w' : World) : Prop where
  os : w'.os = w.os
  tape : w'.tape = w.tape
  output : w'.output = w.output
  size : w.heap.size ≤ w'.heap.size
  block : ∀ g, g < w.heap.size → g ∉ bs → w'.heap[g]? = w.heap[g]?
theorem KBs.refl (bs : List Nat) (w : World) : KBs bs w w := ⟨rfl, rfl, rfl, Nat.le_refl _, fun _ _ _ => rfl⟩
theorem KBs.trans {bs cs : List Nat} {a b c : World} (h : KBs bs a b) (k : KBs cs b c) (hc : ∀ g ∈ cs, g ∈ bs ∨ a.heap.size ≤ g) : KBs bs a c :=
  ⟨k.os.trans h.os, k.tape.trans h.tape, k.output.trans h.output, Nat.le_trans h.size k.size, fun g hg hn => (k.block g (Nat.lt_of_lt_of_le hg h.size) (fun hm => by rcases hc g hm with h1 | h1; exact hn h1; omega)).trans (h.block g hg hn)⟩
theorem KBs.of_below {bs : List Nat} {w w' : World} (h : Below w.heap.size w w') : KBs bs w w' := ⟨h.os, h.tape, h.output, h.size, fun g hg _ => h.block g hg⟩
theorem KBs.set {w : World} (g j : Nat) (v : Value) : KBs [g] w (w.setCell ⟨g, j, none⟩ v) := ⟨rfl, rfl, rfl, by simp [World.setCell], fun b _ hb => heap_set_ne v (by simpa using hb)⟩
theorem KBs.grown {w w' : World} {g : Nat} (h : w.grownBy w' (some g)) : KBs [g] w w' := ⟨h.os, h.tape, h.output, h.size, fun b hb hn => h.block b hb (by simpa using fun e => hn (by simp [e]))⟩
theorem KBs.below {bs : List Nat} {w w' : World} {B : Nat} (h : KBs bs w w') (hb : ∀ g ∈ bs, B ≤ g) (hB : B ≤ w.heap.size) : Below B w w' := ⟨h.os, h.tape, h.output, h.size, fun g hg => h.block g (by omega) (fun hm => by have := hb g hm; omega)⟩
def FullFor (t : VT) : Prop := ∀ (w : World) (v : Value) (bs : List Nat) (mark : Int), RepV w t v bs → bs.Nodup → nodesV t ≤ 70000 → Calls Tryd.prog 26 #[v, .int .i64 mark] w fun e w' => e = .returned (.tuple #[]) ∧ KBs bs w w'
set_option maxHeartbeats 1000000 in
theorem fu_unit : FullFor .unit := by
  intro w v bs mark hv _ _
  obtain ⟨rfl, rfl⟩ := hv
  go_enter Tryd.func26, Tryd.ntmps26
  go_wp2_with fail
  exact bodyPost_ret (v := .tuple #[]) (by simp [results, Tryd.results26, go_sem]) rfl ⟨rfl, KBs.refl _ _⟩
set_option maxHeartbeats 1000000 in
theorem fu_truth (b : Bool) : FullFor (.truth b) := by
  intro w v bs mark hv _ _
  obtain ⟨rfl, rfl⟩ := hv
  go_enter Tryd.func26, Tryd.ntmps26
  go_wp2_with fail
  exact bodyPost_ret (v := .tuple #[]) (by simp [results, Tryd.results26, go_sem]) rfl ⟨rfl, KBs.refl _ _⟩
set_option maxHeartbeats 1000000 in
theorem fu_int (n : Int) : FullFor (.int n) := by
  intro w v bs mark hv _ _
  obtain ⟨rfl, rfl⟩ := hv
  go_enter Tryd.func26, Tryd.ntmps26
  go_wp2_with fail
  exact bodyPost_ret (v := .tuple #[]) (by simp [results, Tryd.results26, go_sem]) rfl ⟨rfl, KBs.refl _ _⟩
set_option maxHeartbeats 1000000 in
theorem fu_text (s : ByteArray) : FullFor (.text s) := by
  intro w v bs mark hv _ _
  obtain ⟨rfl, rfl⟩ := hv
  go_enter Tryd.func26, Tryd.ntmps26
  go_wp2_with fail
  exact bodyPost_ret (v := .tuple #[]) (by simp [results, Tryd.results26, go_sem]) rfl ⟨rfl, KBs.refl _ _⟩
set_option maxHeartbeats 2000000 in
theorem fu_none (mark : Int) (w : World) : Calls Tryd.prog 26 #[.iface 61 (.slice none 0 0), .int .i64 mark] w fun e w' => e = .returned (.tuple #[]) ∧ KBs [] w w' := by
  go_enter Tryd.func26, Tryd.ntmps26
  go_wp2_with fail
  go_loopw [6] (fun iv wr => iv = .int .i64 0 ∧ wr = w) (fun _ _ => 0)
  case atStart => exact ⟨rfl, rfl⟩
  case round =>
    obtain ⟨rfl, rfl⟩ := hrel
    go_wp2_with fail
    go_loopw [4] (fun sv wq => sv = .slice none 0 0 ∧ wq = wr) (fun _ _ => 0)
    case atStart => exact ⟨rfl, rfl⟩
    case round =>
      obtain ⟨rfl, rfl⟩ := hrel
      go_wp2_with fail
      go_end0
      exact ⟨rfl, KBs.refl _ _⟩
def lenOf : Value → Nat
  | .slice _ k _ => k
  | _ => 0
theorem drop_cons' {α : Type} {L : List α} {a : Nat} {c : α} (h : L[a]? = some c) : L.drop a = c :: L.drop (a + 1) := by
  obtain ⟨hlt, e⟩ := List.getElem?_eq_some_iff.1 h
  rw [List.drop_eq_getElem_cons hlt, e]
set_option maxHeartbeats 4000000 in
theorem fu_list (l : List VT) (ih : ∀ t ∈ l, FullFor t) (w : World) (g cap : Nat) (cur : Array Value) (vs : List Value) (bl : List Nat) (mark : Int) (hg : w.heap[g]? = some (.cells cur 30 (0, 0))) (hlc : l.length ≤ cap) (hcm : cap ≤ maxLen)
    (hcs : cur.size = cap) (htk : cur.toList.take l.length = vs) (hr : RepVs w l vs bl) (hnd : (g :: bl).Nodup) (hn : nodesVs l ≤ 69999) :
    Calls Tryd.prog 26 #[.iface 61 (.slice (some ⟨g, 0, none⟩) l.length cap), .int .i64 mark] w fun e w' => e = .returned (.tuple #[]) ∧ KBs (g :: bl) w w' := by
  have hln : l.length ≤ 69999 := Nat.le_trans (len_le_nodes l) hn
  have hcapI : (cap : Int) ≤ 9223372036854775807 := by unfold maxLen at hcm; omega
  have hcapL : (l.length : Int) ≤ (cap : Int) := by omega
  obtain ⟨i0, hi, hz0, hz1, hz2⟩ := info_parts info30
  have HZ1 := Lib.hid hz1; clear hz1 hz2 hz0
  have HI0 := Lib.hid hi; clear hi
  have HI := Lib.hid ih
  have HG := Lib.hid hg
  have HR := Lib.hid hr
  have HND := Lib.hid hnd
  have HN := Lib.hid hn
  have HCM := Lib.hid hcm
  have HCS := Lib.hid hcs
  have HTK := Lib.hid htk
  have HLC := Lib.hid hlc
  have HGL := Lib.hid (show g < w.heap.size from (Array.getElem?_eq_some_iff.1 hg).1)
  clear ih hg hr hnd hn hcm hcs htk hlc
  go_enter Tryd.func26, Tryd.ntmps26
  go_wp2_with fail
  go_loopw [6] (fun iv wr => ∃ (i : Nat) (cur' : Array Value) (br : List Nat), i ≤ l.length ∧ iv = .int .i64 i ∧ Hid (KBs (g :: bl) w wr) ∧ Hid (wr.heap[g]? = some (.cells cur' 30 (0, 0))) ∧ Hid (cur'.size = cap) ∧
      Hid (∀ j, i ≤ j → j < l.length → cur'[j]? = vs[j]?) ∧ Hid (RepVs wr (l.drop i) (vs.drop i) br) ∧ Hid ((g :: br).Nodup) ∧ Hid (∀ b ∈ br, b ∈ bl))
    (fun iv _ => l.length - (intOf iv).toNat)
  case atStart => exact ⟨0, cur, bl, by omega, rfl, Lib.hid (KBs.refl _ _), HG, HCS, Lib.hid (fun j _ hj => by
      rw [← HTK.out, List.getElem?_take_of_lt hj]; simp), Lib.hid (by simpa using HR.out), HND, Lib.hid (fun b hb => hb)⟩
  case round =>
    obtain ⟨i, cur', br, hi, rfl, hK, hg, hcs, hcv, hr, hnd, hsub⟩ := hrel
    by_cases hlt : i < l.length
    · have hr' := hr.out
      rw [List.drop_eq_getElem_cons hlt] at hr'
      obtain ⟨v, vr, b1, b2, hv1, rfl, hv, hvr⟩ := hr'
      have hvi : vs[i]? = some v := by
        have : (vs.drop i)[0]? = some v := by rw [hv1]; rfl
        rw [List.getElem?_drop] at this
        simpa using this
      have hv2 : vr = vs.drop (i + 1) := by
        have := drop_cons' hvi
        rw [hv1] at this
        simp only [List.cons.injEq, true_and] at this
        exact this
      subst hv2
      obtain ⟨ty, u, rfl⟩ := hv.iface
      have hx : wr.cell? ⟨g, i, none⟩ = some (.iface ty u) := by
        rw [(heapcell hg.out i).1, hcv.out i (Nat.le_refl _) hlt, hvi]
      have hnd' := hnd.out
      rw [List.nodup_cons] at hnd'
      obtain ⟨hn1, hn2⟩ := hnd'
      obtain ⟨hn3, hn4, hn5⟩ := List.nodup_append.1 hn2
      have HC := Lib.hid (HI.out l[i] (List.getElem_mem hlt) wr (.iface ty u) b1 mark hv hn3 (by have := nodesVs_take l i hlt; have := nodesVs_le l (i + 1); have := HN.out; omega))
      have HVR := Lib.hid hvr
      have HN1 := Lib.hid hn1
      have HN4 := Lib.hid hn4
      have HN5 := Lib.hid hn5
      have HGW := Lib.hid (show g < wr.heap.size from (Array.getElem?_eq_some_iff.1 hg.out).1)
      clear hv hvr hn1 hn2 hn3 hn4 hn5 hvi hv1
      go_wp2_with fail
      refine HC.out.mono ?_
      rintro e w1 ⟨rfl, hk1⟩
      have hg1 : w1.heap[g]? = some (.cells cur' 30 (0, 0)) := (hk1.block g HGW.out (fun hm => HN1.out (List.mem_append_left _ hm))).trans hg.out
      have hi' : i < cur'.size := by have := hcs.out; have := HLC.out; omega
      obtain ⟨cv, c1⟩ : ∃ cv, w1.cell? ⟨g, i, none⟩ = some cv := ⟨cur'[i], by rw [(heapcell hg1 i).1, Array.getElem?_eq_getElem hi']⟩
      have f1 := (heapcell hg1 i).2
      have HK1 := Lib.hid hk1
      have HG1 := Lib.hid hg1
      clear hk1 hg1 hi' hx
      go_wp2_with fail
      go_roundw
      case rel =>
        have hk1 := HK1.out
        have hstay : ∀ b, b < wr.heap.size → b ∉ b1 → b ≠ g → (w1.setCell ⟨g, i, none⟩ (.iface 58 (.int .i64 mark))).heap[b]? = wr.heap[b]? := fun b hb hb1 hbg =>
          (heap_set_ne _ hbg).trans (hk1.block b hb hb1)
        refine ⟨i + 1, cur'.set! i (.iface 58 (.int .i64 mark)), b2, by omega, by go_num, Lib.hid ?_, Lib.hid (heap_set HG1.out _), Lib.hid (by have := hcs.out; simpa using this), Lib.hid (fun j hj hjl => ?_), Lib.hid (RepVs.keep _ _ _ (fun b hb => ?_) HVR.out), Lib.hid ?_, Lib.hid (fun b hb => hsub.out b (List.mem_append_right _ hb))⟩
        · refine (hK.out.trans hk1 (fun b hb => .inl (List.mem_cons_of_mem _ (hsub.out b (List.mem_append_left _ hb))))).trans (KBs.set g i _) (fun b hb => .inl ?_)
          have : b = g := by simpa using hb
          rw [this]; simp
        · rw [Array.set!_eq_setIfInBounds, Array.getElem?_setIfInBounds, if_neg (by omega)]
          exact hcv.out j (by omega) hjl
        · exact hstay b (RepVs.lt _ _ _ HVR.out b hb) (fun hm => HN5.out b hm b hb rfl) (fun e => HN1.out (List.mem_append_right _ (by rw [← e]; exact hb)))
        · rw [List.nodup_cons]
          exact ⟨fun hm => HN1.out (List.mem_append_right _ hm), HN4.out⟩
      case measure => simp [intOf]; omega
    · obtain rfl : i = l.length := by omega
      have HOW : Hid (wr.ownsRow 0 30 1 (.slice (some ⟨g, 0, none⟩) l.length cap) l.length (cur'.toList.take (l.length * 1))) := Lib.hid ⟨by
        have := hcs.out; have := HLC.out
        simp; omega, .inr ⟨g, cap, cur', rfl, Nat.zero_le _, hg.out, HLC.out, HCM.out, by simpa using hcs.out, rfl⟩⟩
      go_wp2_with fail
      have hm : min (cap : Int) ((l.length : Int) + 70000) = ((min cap (l.length + 70000) : Nat) : Int) := by omega
      rw [hm]
      have hm1 : min cap (l.length + 70000) ≤ cap := by omega
      have hm2 : l.length ≤ min cap (l.length + 70000) := by have := HLC.out; omega
      clear hm
      generalize min cap (l.length + 70000) = m at hm1 hm2 ⊢
      have hmI : (m : Int) ≤ 9223372036854775807 := by omega
      have HGW := Lib.hid (show g < wr.heap.size from (Array.getElem?_eq_some_iff.1 hg.out).1)
      go_loopw [4] (fun sv wq => ∃ (k : Nat) (xs : List Value), l.length ≤ k ∧ k ≤ m ∧ sv = .slice (some ⟨g, 0, none⟩) k cap ∧ Hid (wq.ownsRow 0 30 1 (.slice (some ⟨g, 0, none⟩) k cap) k xs) ∧ Hid (KBs (g :: bl) w wq))
        (fun sv _ => m - lenOf sv)
      case atStart => exact ⟨l.length, _, Nat.le_refl _, hm2, rfl, HOW, hK⟩
      case round =>
        obtain ⟨k, xs, hk1, hk2, rfl, how, hkb⟩ := hrel
        by_cases hlt : k < m
        · have hltI : (k : Int) < (m : Int) := by omega
          go_wp2_with (at_builtin; refine wpList_append_fits _ rfl _ _ 61 rfl 0 30 i0 1 Tryd.underlying61 HI0.out HZ1.out g k cap xs rfl (how.out.alloc _) ⟨wr.heap.size, 0, none⟩ 1 1 [.iface 58 (.int .i64 mark)] rfl rfl (one_new _ _ _) ?c2 (by omega) ?_)
          case c2 => intro u hu; simp at hu; subst hu; rfl
          intro w2 hown2 hgrow2
          have HO2 := Lib.hid hown2
          have HK2 := Lib.hid (((hkb.out.trans (KBs.of_below (bs := []) (alloc_below wr (.cells #[.iface 58 (.int .i64 mark)] 30))) (by simp)).trans (KBs.grown hgrow2) (fun b hb => .inl (by simp at hb; simp [hb]))))
          clear hown2 hgrow2
          go_wp2_with fail
          go_roundw
          case rel => exact ⟨k + 1, _, by omega, by omega, rfl, HO2, HK2⟩
          case measure => simp [lenOf]; omega
        · obtain rfl : k = m := by omega
          go_wp2_with fail
          go_end0
          exact ⟨rfl, hkb.out⟩
mutual
/-- 'Full': the lists of a value written full; nothing else. -/
theorem full_any : ∀ t : VT, FullFor t
  | .unit => fu_unit
  | .truth b => fu_truth b
  | .int n => fu_int n
  | .text s => fu_text s
  | .list l => fun w v bs mark hv hnd hn => by
    obtain ⟨sv, vs, bl, rfl, hown, hr, rfl⟩ := hv
    have hn' : nodesVs l ≤ 69999 := by simp only [nodesV] at hn; omega
    rcases hown.2 with ⟨rfl, hl0⟩ | ⟨g, cap, cur, rfl, _, hg, hlc, hcm, hcs, htk⟩
    · have hl : l = [] := List.length_eq_zero_iff.1 hl0
      subst hl
      obtain ⟨rfl, rfl⟩ := hr
      exact fu_none mark w
    · exact fu_list l (full_anys l) w g cap cur vs bl mark hg hlc hcm (by omega) (by rw [← htk]; simp) hr hnd hn'
theorem full_anys : ∀ l : List VT, ∀ t ∈ l, FullFor t
  | [], t, h => by simp at h
  | q :: r, t, h => by
    rcases List.mem_cons.1 h with h | h
    · rw [h]; exact full_any q
    · exact full_anys r t h
end
end
end Go.Proofs.YtkpnnhebfaggeaaDoor
