/-
  The plain trees, values, measure, value, compare, same, and the order law: walks by the kit.
  Conditions: none.
-/
import Derived.Test.YtkpnnhebfaggeaaDoorChecked
import Derived.WalkKit
import Derived.WalkSpells
import Derived.WalkLawsBesides
import Derived.Deep.QuietTactic
import Derived.BigQuiet
import Derived.Lib.Hide
import Derived.Deep.RegionHeld3
import Derived.Deep.RegionWith
namespace Go.Proofs.YtkpnnhebfaggeaaDoor
section
open Go.RowKit

/-- A plain value. -/
inductive PT where
  | mk (k n : Int) (s : ByteArray) (l : List PT)

/-- It lies there. -/
def CellsP (w : World) (b o : Nat) (k n : Int) (s : ByteArray) (la : Option Addr) (ln lc : Nat) : Prop :=
  w.cell? ⟨b, o, none⟩ = some (.int .i64 k) ∧ w.cell? ⟨b, o + 1, none⟩ = some (.int .i64 n) ∧ w.cell? ⟨b, o + 2, none⟩ = some (.string s) ∧ w.cell? ⟨b, o + 3, none⟩ = some (.slice la ln lc)
mutual
def InP (w : World) (b o : Nat) : PT → Prop
  | .mk k n s l => s.size ≤ 140737488355328 ∧ l.length ≤ 4398046511104 ∧ ∃ la lc, CellsP w b o k n s la l.length lc ∧ (l ≠ [] → ∃ b' o', la = some ⟨b', o', none⟩ ∧ InPs w b' o' l)
def InPs (w : World) (b o : Nat) : List PT → Prop
  | [] => True
  | p :: r => InP w b o p ∧ InPs w b (o + 4) r
end
mutual
theorem InP.cong {w w' : World} (hc : ∀ a, w'.cell? a = w.cell? a) : ∀ (p : PT) (b o : Nat), InP w b o p → InP w' b o p
  | .mk k n s l, b, o, h => by
    simp only [InP, CellsP, hc] at h ⊢
    obtain ⟨h1, h2, la, lc, h3, h4⟩ := h
    refine ⟨h1, h2, la, lc, h3, fun hl => ?_⟩
    obtain ⟨b', o', h5, h6⟩ := h4 hl
    exact ⟨b', o', h5, InPs.cong hc l b' o' h6⟩
theorem InPs.cong {w w' : World} (hc : ∀ a, w'.cell? a = w.cell? a) : ∀ (l : List PT) (b o : Nat), InPs w b o l → InPs w' b o l
  | [], b, o, h => trivial
  | p :: r, b, o, h => by
    simp only [InPs] at h ⊢
    exact ⟨InP.cong hc p b o h.1, InPs.cong hc r b (o + 4) h.2⟩
end
theorem InPs.get {w : World} : ∀ (l : List PT) (b o i : Nat) (h : i < l.length), InPs w b o l → InP w b (o + 4 * i) l[i]
  | p :: r, b, o, 0, h, hp => by simpa using hp.1
  | p :: r, b, o, i + 1, h, hp => by
    have := InPs.get r b (o + 4) i (by simpa using h) hp.2
    simpa [Nat.mul_add, Nat.add_assoc, Nat.add_comm 4] using this

mutual
def meas : PT → Int → Int → Int × Bool
  | .mk k n s l, left, deep =>
    if left < 1 ∨ (k ≠ 4 ∧ s.toList ≠ []) ∨ (k ≠ 5 ∧ 0 < l.length) then (0, false)
    else if k = 1 then (1, decide (n = 0))
    else if k = 2 then (1, decide (n = 0 ∨ n = 1))
    else if k = 3 then (1, true)
    else if k = 4 then (1 + s.size, decide (n = 0 ∧ (s.size : Int) < left))
    else if k = 5 then (if n ≠ 0 ∨ deep = 64 then (0, false) else measL l left (deep + 1) 1)
    else (0, false)
def measL : List PT → Int → Int → Int → Int × Bool
  | [], _, _, n => (n, true)
  | p :: r, left, deep, n => if (meas p (left - n) deep).2 then measL r left deep (n + (meas p (left - n) deep).1) else (0, false)
end
mutual
theorem meas_bd : ∀ (p : PT) (left deep : Int), (meas p left deep).2 = true → 1 ≤ (meas p left deep).1 ∧ (meas p left deep).1 ≤ left
  | .mk k n s l, left, deep, h => by
    unfold meas at h ⊢
    have ih := measL_bd l left (deep + 1) 1 (by omega)
    split at h
    · simp at h
    · rename_i h0
      rw [if_neg h0]
      split at h
      · rename_i h1; rw [if_pos h1]; dsimp only; omega
      · rename_i h1
        rw [if_neg h1]
        split at h
        · rename_i h1; rw [if_pos h1]; dsimp only; omega
        · rename_i h1
          rw [if_neg h1]
          split at h
          · rename_i h1; rw [if_pos h1]; dsimp only; omega
          · rename_i h1
            rw [if_neg h1]
            split at h
            · rename_i h1; rw [if_pos h1]; dsimp only at h ⊢; simp only [decide_eq_true_eq] at h; omega
            · rename_i h1
              rw [if_neg h1]
              split at h
              · rename_i h1
                rw [if_pos h1]
                split at h
                · simp at h
                · rename_i h2
                  rw [if_neg h2]
                  exact ih (by omega) h
              · simp at h
theorem measL_bd : ∀ (l : List PT) (left deep n : Int), 1 ≤ n → n ≤ left → (measL l left deep n).2 = true → 1 ≤ (measL l left deep n).1 ∧ (measL l left deep n).1 ≤ left
  | [], left, deep, n, h1, h2, h => by simp only [measL]; omega
  | p :: r, left, deep, n, h1, h2, h => by
    simp only [measL] at h ⊢
    split at h
    · rename_i hp
      rw [if_pos hp]
      have := meas_bd p (left - n) deep hp
      exact measL_bd r left deep _ (by omega) (by omega) h
    · simp at h
end
end

section
open Go.RowKit
set_option maxRecDepth 100000
def MeasP (w : World) (r : Int × Bool) (e : Ending) (w' : World) : Prop := e = .returned (.tuple #[.int .i64 r.1, .bool r.2]) ∧ ∃ n, w' = w.drewN n
variable (w : World) (b o : Nat) (k n left deep : Int) (s : ByteArray) (la : Option Addr) (ln lc : Nat)
set_option maxHeartbeats 1000000 in
theorem m_low (hc : CellsP w b o k n s la ln lc) (hl : left < 1) :
    Calls Tryd.prog 40 #[.pointer (some ⟨b, o, none⟩), .int .i64 left, .int .i64 deep] w (MeasP w (0, false)) := by
  obtain ⟨h0, h1, h2, h3⟩ := hc
  go_enter Tryd.func40, Tryd.ntmps40
  go_wp2_with fail
  go_ret2
  exact ⟨rfl, 0, rfl⟩
set_option maxHeartbeats 1000000 in
theorem m_text (hc : CellsP w b o k n s la ln lc) (hl : 1 ≤ left) (hk : k ≠ 4) (hs : s.toList ≠ []) :
    Calls Tryd.prog 40 #[.pointer (some ⟨b, o, none⟩), .int .i64 left, .int .i64 deep] w (MeasP w (0, false)) := by
  obtain ⟨h0, h1, h2, h3⟩ := hc
  go_enter Tryd.func40, Tryd.ntmps40
  go_wp2_with fail
  go_ret2
  exact ⟨rfl, 0, rfl⟩
set_option maxHeartbeats 1000000 in
theorem m_list4 (hc : CellsP w b o 4 n s la ln lc) (hl : 1 ≤ left) (hk : 0 < ln) :
    Calls Tryd.prog 40 #[.pointer (some ⟨b, o, none⟩), .int .i64 left, .int .i64 deep] w (MeasP w (0, false)) := by
  obtain ⟨h0, h1, h2, h3⟩ := hc
  go_enter Tryd.func40, Tryd.ntmps40
  go_wp2_with fail
  go_ret2
  exact ⟨rfl, 0, rfl⟩
set_option maxHeartbeats 1000000 in
theorem m_list (hc : CellsP w b o k n s la ln lc) (hl : 1 ≤ left) (hk5 : (k != 5) = true) (hk4 : (k != 4) = true) (hs : s.toList = []) (hk : 0 < ln) :
    Calls Tryd.prog 40 #[.pointer (some ⟨b, o, none⟩), .int .i64 left, .int .i64 deep] w (MeasP w (0, false)) := by
  obtain ⟨h0, h1, h2, h3⟩ := hc
  go_enter Tryd.func40, Tryd.ntmps40
  go_wp2_with fail
  go_ret2
  exact ⟨rfl, 0, rfl⟩
set_option maxHeartbeats 1000000 in
theorem m_unit (hc : CellsP w b o 1 n s la 0 lc) (hl : 1 ≤ left) (hs : s.toList = []) :
    Calls Tryd.prog 40 #[.pointer (some ⟨b, o, none⟩), .int .i64 left, .int .i64 deep] w (MeasP w (1, decide (n = 0))) := by
  obtain ⟨h0, h1, h2, h3⟩ := hc
  go_enter Tryd.func40, Tryd.ntmps40
  go_wp2_with fail
  go_quiet (fail)
  go_wp2_with fail
  go_ret2
  exact ⟨rfl, nq, rfl⟩
set_option maxHeartbeats 1000000 in
theorem m_truth (hc : CellsP w b o 2 n s la 0 lc) (hl : 1 ≤ left) (hs : s.toList = []) :
    Calls Tryd.prog 40 #[.pointer (some ⟨b, o, none⟩), .int .i64 left, .int .i64 deep] w (MeasP w (1, decide (n = 0 ∨ n = 1))) := by
  obtain ⟨h0, h1, h2, h3⟩ := hc
  by_cases hn : n = 0
  · go_enter Tryd.func40, Tryd.ntmps40
    go_wp2_with fail
    go_quiet (fail)
    go_wp2_with fail
    go_ret2
    exact ⟨by simp [hn], nq, rfl⟩
  · have hn' : (n == 0) = false := by simpa using hn
    have hd : decide (n = 0 ∨ n = 1) = decide (n = 1) := by simp [hn]
    rw [hd]; clear hd
    go_enter Tryd.func40, Tryd.ntmps40
    go_wp2_with fail
    go_quiet (fail)
    go_wp2_with fail
    go_ret2
    exact ⟨rfl, nq, rfl⟩
set_option maxHeartbeats 1000000 in
theorem m_int (hc : CellsP w b o 3 n s la 0 lc) (hl : 1 ≤ left) (hs : s.toList = []) :
    Calls Tryd.prog 40 #[.pointer (some ⟨b, o, none⟩), .int .i64 left, .int .i64 deep] w (MeasP w (1, true)) := by
  obtain ⟨h0, h1, h2, h3⟩ := hc
  go_enter Tryd.func40, Tryd.ntmps40
  go_wp2_with fail
  go_ret2
  exact ⟨rfl, 0, rfl⟩
set_option maxHeartbeats 1000000 in
theorem m_str (hc : CellsP w b o 4 n s la 0 lc) (hl : 1 ≤ left) (hs : s.size ≤ 140737488355328) :
    Calls Tryd.prog 40 #[.pointer (some ⟨b, o, none⟩), .int .i64 left, .int .i64 deep] w (MeasP w (1 + s.size, decide (n = 0 ∧ (s.size : Int) < left))) := by
  obtain ⟨h0, h1, h2, h3⟩ := hc
  have e1 : IntKind.i64.wrap (1 + (s.size : Int)) = 1 + (s.size : Int) := IntWalk.i64_in _ (by omega)
  by_cases hn : n = 0
  · subst hn
    simp only [true_and]
    go_enter Tryd.func40, Tryd.ntmps40
    go_wp2_with fail
    go_quiet (fail)
    go_wp2_with fail
    go_ret2
    exact ⟨rfl, nq, rfl⟩
  · have hn' : (n == 0) = false := by simpa using hn
    simp only [hn, false_and, decide_false]
    go_enter Tryd.func40, Tryd.ntmps40
    go_wp2_with fail
    go_quiet (fail)
    go_wp2_with fail
    go_ret2
    exact ⟨rfl, nq, rfl⟩
set_option maxHeartbeats 1000000 in
theorem m_none (hc : CellsP w b o k n s la 0 lc) (hl : 1 ≤ left) (hs : s.toList = []) (k1 : (k == 1) = false) (k2 : (k == 2) = false) (k3 : (k == 3) = false) (k4 : (k == 4) = false) (k5 : (k == 5) = false) (k4' : (k != 4) = true) (k5' : (k != 5) = true) :
    Calls Tryd.prog 40 #[.pointer (some ⟨b, o, none⟩), .int .i64 left, .int .i64 deep] w (MeasP w (0, false)) := by
  obtain ⟨h0, h1, h2, h3⟩ := hc
  go_enter Tryd.func40, Tryd.ntmps40
  go_wp2_with fail
  go_ret2
  exact ⟨rfl, 0, rfl⟩
end

section
open Go.RowKit
set_option maxRecDepth 100000
def MeasFor (p : PT) : Prop := ∀ (w : World) (b o : Nat) (left deep : Int), InP w b o p → left ≤ 65536 → 0 ≤ deep → deep ≤ 64 →
  Calls Tryd.prog 40 #[.pointer (some ⟨b, o, none⟩), .int .i64 left, .int .i64 deep] w (MeasP w (meas p left deep))
set_option maxHeartbeats 1000000 in
theorem m_five0 (w : World) (b o : Nat) (n left deep : Int) (s : ByteArray) (la : Option Addr) (ln lc : Nat) (hc : CellsP w b o 5 n s la ln lc) (hl : 1 ≤ left) (hs : s.toList = []) (hn : n ≠ 0 ∨ deep = 64) :
    Calls Tryd.prog 40 #[.pointer (some ⟨b, o, none⟩), .int .i64 left, .int .i64 deep] w (MeasP w (0, false)) := by
  obtain ⟨h0, h1, h2, h3⟩ := hc
  by_cases h : n = 0
  · have hd : deep = 64 := by rcases hn with h' | h'; exact absurd h h'; exact h'
    clear hn
    subst h; subst hd
    go_enter Tryd.func40, Tryd.ntmps40
    go_wp2_with fail
    go_ret2
    exact ⟨rfl, 0, rfl⟩
  · clear hn
    go_enter Tryd.func40, Tryd.ntmps40
    go_wp2_with fail
    go_ret2
    exact ⟨rfl, 0, rfl⟩
set_option maxHeartbeats 1000000 in
theorem m_five (w : World) (b o b' o' : Nat) (left deep : Int) (s : ByteArray) (la : Option Addr) (lc : Nat) (l : List PT) (ih : ∀ p ∈ l, MeasFor p)
    (hc : CellsP w b o 5 0 s la l.length lc) (hl : 1 ≤ left) (hl' : left ≤ 65536) (hs : s.toList = []) (hd : 0 ≤ deep) (hd' : deep < 64) (hd2 : (deep == 64) = false) (hln : l.length ≤ 4398046511104)
    (hla : l ≠ [] → la = some ⟨b', o', none⟩) (hin : InPs w b' o' l) :
    Calls Tryd.prog 40 #[.pointer (some ⟨b, o, none⟩), .int .i64 left, .int .i64 deep] w (MeasP w (measL l left (deep + 1) 1)) := by
  obtain ⟨h0, h1, h2, h3⟩ := hc
  have H : Hid (∀ p ∈ l, MeasFor p) := Lib.hid ih
  have HL : Hid (l ≠ [] → la = some ⟨b', o', none⟩) := Lib.hid hla
  have HI : Hid (InPs w b' o' l) := Lib.hid hin
  clear ih hla hin
  go_enter Tryd.func40, Tryd.ntmps40
  go_wp2_with fail
  go_loopw [8, 108] (fun nv iv wr => ∃ (i : Nat) (acc : Int) (m : Nat), i ≤ l.length ∧ iv = .int .i64 i ∧ nv = .int .i64 acc ∧ wr = w.drewN m ∧ 1 ≤ acc ∧ acc ≤ left ∧ Hid (measL (l.drop i) left (deep + 1) acc = measL l left (deep + 1) 1))
    (fun _ i _ => l.length - (intOf i).toNat)
  case atStart => exact ⟨0, 1, 0, by omega, rfl, rfl, rfl, by omega, by omega, Lib.hid (by simp)⟩
  case round =>
    obtain ⟨i, acc, m, hi, rfl, rfl, rfl, ha, ha', hm⟩ := hrel
    by_cases hlt : i < l.length
    · obtain rfl := HL.out (by intro h; subst h; simp at hlt)
      have hch := H.out l[i] (List.getElem_mem hlt) (w.drewN m) b' (o' + i * 4) (left - acc) (deep + 1)
        (by rw [Nat.mul_comm]; exact InP.cong (w := w) (w' := w.drewN m) (fun _ => rfl) _ _ _ (InPs.get l b' o' i hlt HI.out)) (by omega) (by omega) (by omega)
      have hstep : measL (l.drop i) left (deep + 1) acc = if (meas l[i] (left - acc) (deep + 1)).2 then measL (l.drop (i + 1)) left (deep + 1) (acc + (meas l[i] (left - acc) (deep + 1)).1) else (0, false) := by
        rw [List.drop_eq_getElem_cons hlt, measL]
      have hbd := meas_bd l[i] (left - acc) (deep + 1)
      generalize meas l[i] (left - acc) (deep + 1) = r at hch hstep hbd
      obtain ⟨k, ok⟩ := r
      have hm' := hm.out
      clear hm
      cases ok with
      | false =>
        simp only [Bool.false_eq_true, if_false] at hstep
        rw [hstep] at hm'
        rw [← hm']
        clear hm' hstep hbd
        have HC := Lib.hid hch
        clear hch
        go_wp2_with (go_at_call 40; refine HC.out.mono ?_; rintro e w' ⟨rfl, m', rfl⟩)
        go_ret2
        exact ⟨rfl, _, rfl⟩
      | true =>
        simp only [if_true] at hstep
        rw [hstep] at hm'
        have hb := hbd rfl
        dsimp only at hb
        have hm := Lib.hid hm'
        clear hm' hstep hbd
        have HC := Lib.hid hch
        clear hch
        go_wp2_with (go_at_call 40; refine HC.out.mono ?_; rintro e w' ⟨rfl, m', rfl⟩)
        go_roundw
        case rel => exact ⟨i + 1, acc + k, m + m', by omega, by go_num, by go_num, rfl, by omega, by omega, hm⟩
        case measure => simp [intOf]; omega
    · obtain rfl : i = l.length := by omega
      have hm' := hm.out
      simp only [List.drop_length, measL] at hm'
      have HM := Lib.hid hm'
      clear hm hm'
      go_wp2_with fail
      go_ret2
      exact ⟨by rw [← HM.out]; rfl, m, rfl⟩
mutual
theorem measure_any : ∀ (p : PT), MeasFor p
  | .mk k n s l => by
    intro w b o left deep hin hl hd hd'
    have ih := measure_all l
    simp only [InP] at hin
    obtain ⟨hs, hln, la, lc, hc, hla⟩ := hin
    unfold meas
    by_cases h1 : left < 1
    · rw [if_pos (.inl h1)]; exact m_low w b o k n left deep s la _ lc hc h1
    · have hl1 : 1 ≤ left := by omega
      by_cases h2 : k ≠ 4 ∧ s.toList ≠ []
      · rw [if_pos (.inr (.inl h2))]; exact m_text w b o k n left deep s la _ lc hc hl1 h2.1 h2.2
      · by_cases h3 : k ≠ 5 ∧ 0 < l.length
        · rw [if_pos (.inr (.inr h3))]
          by_cases h4 : k = 4
          · subst h4; exact m_list4 w b o n left deep s la _ lc hc hl1 h3.2
          · exact m_list w b o k n left deep s la _ lc hc hl1 (by simpa using h3.1) (by simpa using h4) (by simpa [h4] using h2) h3.2
        · rw [if_neg (by simp only [not_or]; exact ⟨h1, h2, h3⟩)]
          by_cases e1 : k = 1
          · subst e1
            rw [if_pos rfl]
            have hl0 : l.length = 0 := by simpa using h3
            rw [hl0] at hc
            exact m_unit w b o n left deep s la lc hc hl1 (by simpa using h2)
          · rw [if_neg e1]
            by_cases e2 : k = 2
            · subst e2
              rw [if_pos rfl]
              have hl0 : l.length = 0 := by simpa using h3
              rw [hl0] at hc
              exact m_truth w b o n left deep s la lc hc hl1 (by simpa using h2)
            · rw [if_neg e2]
              by_cases e3 : k = 3
              · subst e3
                rw [if_pos rfl]
                have hl0 : l.length = 0 := by simpa using h3
                rw [hl0] at hc
                exact m_int w b o n left deep s la lc hc hl1 (by simpa using h2)
              · rw [if_neg e3]
                by_cases e4 : k = 4
                · subst e4
                  rw [if_pos rfl]
                  have hl0 : l.length = 0 := by simpa using h3
                  rw [hl0] at hc
                  exact m_str w b o n left deep s la lc hc hl1 hs
                · rw [if_neg e4]
                  have hs0 : s.toList = [] := by simpa [e4] using h2
                  by_cases e5 : k = 5
                  · subst e5
                    rw [if_pos rfl]
                    by_cases hn : n ≠ 0 ∨ deep = 64
                    · rw [if_pos hn]; exact m_five0 w b o n left deep s la _ lc hc hl1 hs0 hn
                    · rw [if_neg hn]
                      have hn0 : n = 0 := by simp only [not_or, ne_eq, Decidable.not_not] at hn; exact hn.1
                      have hd0 : deep ≠ 64 := by simp only [not_or] at hn; exact hn.2
                      subst hn0
                      by_cases hl0 : l = []
                      · subst hl0
                        exact m_five w b o 0 0 left deep s la lc [] (by simp) hc hl1 hl hs0 hd (by omega) (by simpa using hd0) (by simp) (by simp) trivial
                      · obtain ⟨b', o', e, hin⟩ := hla hl0
                        exact m_five w b o b' o' left deep s la lc l ih hc hl1 hl hs0 hd (by omega) (by simpa using hd0) hln (fun _ => e) hin
                  · rw [if_neg e5]
                    have hl0 : l.length = 0 := by simpa [e5] using h3
                    rw [hl0] at hc
                    exact m_none w b o k n left deep s la lc hc hl1 hs0 (by simpa using e1) (by simpa using e2) (by simpa using e3) (by simpa using e4) (by simpa using e5) (by simpa using e4) (by simpa using e5)
theorem measure_all : ∀ (l : List PT), ∀ p ∈ l, MeasFor p
  | [], p, h => by simp at h
  | q :: r, p, h => by
    have h1 := measure_any q
    have h2 := measure_all r
    rcases List.mem_cons.1 h with rfl | h
    · exact h1
    · exact h2 p h
end
end

section
open Go.RowKit

theorem cell_lt {w : World} {b o : Nat} {v : Value} (h : w.cell? ⟨b, o, none⟩ = some v) : b < w.heap.size := World.block_lt_of_cell? w _ h
theorem CellsP.below {w w' : World} (hb : Below w.heap.size w w') {b o : Nat} {k n : Int} {s : ByteArray} {la : Option Addr} {ln lc : Nat} (h : CellsP w b o k n s la ln lc) : CellsP w' b o k n s la ln lc := by
  have hlt := cell_lt h.1
  have e : ∀ j, w'.cell? ⟨b, j, none⟩ = w.cell? ⟨b, j, none⟩ := fun j => hb.cell (p := ⟨b, j, none⟩) hlt
  unfold CellsP at *
  rw [e, e, e, e]; exact h
mutual
theorem InP.below {w w' : World} (hb : Below w.heap.size w w') : ∀ (p : PT) (b o : Nat), InP w b o p → InP w' b o p
  | .mk k n s l, b, o, h => by
    simp only [InP] at h ⊢
    obtain ⟨h1, h2, la, lc, h3, h4⟩ := h
    refine ⟨h1, h2, la, lc, h3.below hb, fun hl => ?_⟩
    obtain ⟨b', o', h5, h6⟩ := h4 hl
    exact ⟨b', o', h5, InPs.below hb l b' o' h6⟩
theorem InPs.below {w w' : World} (hb : Below w.heap.size w w') : ∀ (l : List PT) (b o : Nat), InPs w b o l → InPs w' b o l
  | [], b, o, h => trivial
  | p :: r, b, o, h => by
    simp only [InPs] at h ⊢
    exact ⟨InP.below hb p b o h.1, InPs.below hb r b (o + 4) h.2⟩
end

theorem one_new (w : World) (v : Value) (t : TypeId) : ∀ j u, [v][j]? = some u → (w.alloc (.cells #[v] t)).cell? ((⟨w.heap.size, 0, none⟩ : Addr).add j) = some u := by
  intro j u hu
  cases j with
  | zero =>
    have : v = u := by simpa using hu
    subst this
    rw [show (⟨w.heap.size, 0, none⟩ : Addr).add 0 = ⟨w.heap.size, 0, none⟩ from by unfold Addr.add; split <;> simp_all]
    rw [cell_of_row _ _ 0 _ _ _ (heap_alloc_new w _)]
    rfl
  | succ j => simp at hu
/-- A value. -/
inductive VT where
  | unit
  | truth (b : Bool)
  | int (n : Int)
  | text (s : ByteArray)
  | list (l : List VT)
mutual
/-- A value lies there; its lists' own blocks. -/
def RepV (w : World) : VT → Value → List Nat → Prop
  | .unit, v, bs => v = .iface 90 (.agg #[]) ∧ bs = []
  | .truth b, v, bs => v = .iface 63 (.bool b) ∧ bs = []
  | .int n, v, bs => v = .iface 58 (.int .i64 n) ∧ bs = []
  | .text s, v, bs => v = .iface 88 (.string s) ∧ bs = []
  | .list l, v, bs => ∃ sv vs bl, v = .iface 61 sv ∧ w.ownsRow 0 30 1 sv l.length vs ∧ RepVs w l vs bl ∧ bs = sv.ownBlock.toList ++ bl
def RepVs (w : World) : List VT → List Value → List Nat → Prop
  | [], vs, bs => vs = [] ∧ bs = []
  | t :: r, vs, bs => ∃ v vr b br, vs = v :: vr ∧ bs = b ++ br ∧ RepV w t v b ∧ RepVs w r vr br
end
theorem ownsRow_keep {w w' : World} {base e size n : Nat} {v : Value} {xs : List Value} (h : w.ownsRow base e size v n xs) (hk : ∀ g, v.ownBlock = some g → w'.heap[g]? = w.heap[g]?) : w'.ownsRow base e size v n xs := by
  refine ⟨h.1, ?_⟩
  rcases h.2 with hn | ⟨g, cap, cur, rfl, hb, hgg, rest⟩
  · exact .inl hn
  · exact .inr ⟨g, cap, cur, rfl, hb, by rw [hk g rfl]; exact hgg, rest⟩
mutual
theorem RepV.keep {w w' : World} : ∀ (t : VT) (v : Value) (bs : List Nat), (∀ g ∈ bs, w'.heap[g]? = w.heap[g]?) → RepV w t v bs → RepV w' t v bs
  | .unit, v, bs, hk, h => h
  | .truth b, v, bs, hk, h => h
  | .int n, v, bs, hk, h => h
  | .text s, v, bs, hk, h => h
  | .list l, v, bs, hk, h => by
    obtain ⟨sv, vs, bl, h1, h2, h3, rfl⟩ := h
    exact ⟨sv, vs, bl, h1, ownsRow_keep h2 (fun g hg => hk g (by simp [hg])), RepVs.keep l vs bl (fun g hg => hk g (by simp [hg])) h3, rfl⟩
theorem RepVs.keep {w w' : World} : ∀ (l : List VT) (vs : List Value) (bs : List Nat), (∀ g ∈ bs, w'.heap[g]? = w.heap[g]?) → RepVs w l vs bs → RepVs w' l vs bs
  | [], vs, bs, hk, h => h
  | t :: r, vs, bs, hk, h => by
    obtain ⟨v, vr, b, br, h1, rfl, h3, h4⟩ := h
    exact ⟨v, vr, b, br, h1, rfl, RepV.keep t v b (fun g hg => hk g (by simp [hg])) h3, RepVs.keep r vr br (fun g hg => hk g (by simp [hg])) h4⟩
end
mutual
theorem RepV.lt {w : World} : ∀ (t : VT) (v : Value) (bs : List Nat), RepV w t v bs → ∀ g ∈ bs, g < w.heap.size
  | .unit, v, bs, h, g, hg => by rw [h.2] at hg; simp at hg
  | .truth b, v, bs, h, g, hg => by rw [h.2] at hg; simp at hg
  | .int n, v, bs, h, g, hg => by rw [h.2] at hg; simp at hg
  | .text s, v, bs, h, g, hg => by rw [h.2] at hg; simp at hg
  | .list l, v, bs, h, g, hg => by
    obtain ⟨sv, vs, bl, h1, h2, h3, rfl⟩ := h
    rcases List.mem_append.1 hg with hg | hg
    · exact (h2.lt g (by simpa using hg)).2
    · exact RepVs.lt l vs bl h3 g hg
theorem RepVs.lt {w : World} : ∀ (l : List VT) (vs : List Value) (bs : List Nat), RepVs w l vs bs → ∀ g ∈ bs, g < w.heap.size
  | [], vs, bs, h, g, hg => by rw [h.2] at hg; simp at hg
  | t :: r, vs, bs, h, g, hg => by
    obtain ⟨v, vr, b, br, h1, rfl, h3, h4⟩ := h
    rcases List.mem_append.1 hg with hg | hg
    · exact RepV.lt t v b h3 g hg
    · exact RepVs.lt r vr br h4 g hg
end
theorem RepVs.snoc {w : World} : ∀ (l : List VT) (vs : List Value) (bs : List Nat) (t : VT) (v : Value) (b : List Nat), RepVs w l vs bs → RepV w t v b → RepVs w (l ++ [t]) (vs ++ [v]) (bs ++ b)
  | [], vs, bs, t, v, b, h, ht => by
    obtain ⟨rfl, rfl⟩ := h
    exact ⟨v, [], b, [], rfl, by simp, ht, rfl, rfl⟩
  | t' :: r, vs, bs, t, v, b, h, ht => by
    obtain ⟨v', vr, b', br, rfl, rfl, h3, h4⟩ := h
    exact ⟨v', vr ++ [v], b', br ++ b, rfl, by simp, h3, RepVs.snoc r vr br t v b h4 ht⟩
theorem RepVs.length {w : World} : ∀ (l : List VT) (vs : List Value) (bs : List Nat), RepVs w l vs bs → vs.length = l.length
  | [], vs, bs, h => by rw [h.1]; rfl
  | t :: r, vs, bs, h => by
    obtain ⟨v, vr, b, br, rfl, _, _, h4⟩ := h
    simp [RepVs.length r vr br h4]
theorem RepVs.get {w : World} : ∀ (l : List VT) (vs : List Value) (bs : List Nat), RepVs w l vs bs → ∀ i (h : i < l.length), ∃ v b, vs[i]? = some v ∧ RepV w l[i] v b ∧ ∀ g ∈ b, g ∈ bs
  | t :: r, vs, bs, h, 0, hi => by
    obtain ⟨v, vr, b, br, rfl, rfl, h3, h4⟩ := h
    exact ⟨v, b, rfl, h3, fun g hg => by simp [hg]⟩
  | t :: r, vs, bs, h, i + 1, hi => by
    obtain ⟨v, vr, b, br, rfl, rfl, h3, h4⟩ := h
    obtain ⟨v', b', h5, h6, h7⟩ := RepVs.get r vr br h4 i (by simpa using hi)
    exact ⟨v', b', h5, h6, fun g hg => by simp [h7 g hg]⟩
/-- Every value bears a type. -/
theorem RepV.iface {w : World} : ∀ (t : VT) (v : Value) (bs : List Nat), RepV w t v bs → ∃ ty u, v = .iface ty u
  | .unit, v, bs, h => ⟨_, _, h.1⟩
  | .truth b, v, bs, h => ⟨_, _, h.1⟩
  | .int n, v, bs, h => ⟨_, _, h.1⟩
  | .text s, v, bs, h => ⟨_, _, h.1⟩
  | .list l, v, bs, h => by obtain ⟨sv, vs, bl, h1, _⟩ := h; exact ⟨_, _, h1⟩

mutual
/-- The value of a plain one. -/
def valOf : PT → VT
  | .mk k n s l => if k = 1 then .unit else if k = 2 then .truth (decide (n = 1)) else if k = 3 then .int n else if k = 4 then .text s else .list (valsOf l)
def valsOf : List PT → List VT
  | [] => []
  | p :: r => valOf p :: valsOf r
end
theorem valsOf_eq : ∀ l, valsOf l = l.map valOf
  | [] => rfl
  | p :: r => by simp [valsOf, valsOf_eq r]
end

section
open Go.RowKit
set_option maxRecDepth 100000
/-- Made anew: the value, its blocks, all of them new and none twice. -/
def NewV (w : World) (t : VT) (e : Ending) (w' : World) : Prop := ∃ v bs, e = .returned v ∧ RepV w' t v bs ∧ bs.Nodup ∧ (∀ g ∈ bs, w.heap.size ≤ g) ∧ Below w.heap.size w w'
def ValueFor (p : PT) : Prop := ∀ (w : World) (b o : Nat), InP w b o p → Calls Tryd.prog 31 #[.pointer (some ⟨b, o, none⟩)] w (NewV w (valOf p))
variable (w : World) (b o : Nat) (k n : Int) (s : ByteArray) (la : Option Addr) (ln lc : Nat)
theorem newV_leaf {t : VT} {v : Value} (h : RepV w t v []) : NewV w t (.returned v) w := ⟨v, [], rfl, h, by simp, by simp, Below.refl _ _⟩
set_option maxHeartbeats 1000000 in
theorem v_unit (hc : CellsP w b o 1 n s la ln lc) : Calls Tryd.prog 31 #[.pointer (some ⟨b, o, none⟩)] w (NewV w .unit) := by
  obtain ⟨h0, h1, h2, h3⟩ := hc
  go_enter Tryd.func31, Tryd.ntmps31
  go_wp2_with fail
  go_ret
  exact newV_leaf _ ⟨rfl, rfl⟩
set_option maxHeartbeats 1000000 in
theorem v_truth (hc : CellsP w b o 2 n s la ln lc) : Calls Tryd.prog 31 #[.pointer (some ⟨b, o, none⟩)] w (NewV w (.truth (decide (n = 1)))) := by
  obtain ⟨h0, h1, h2, h3⟩ := hc
  go_enter Tryd.func31, Tryd.ntmps31
  go_wp2_with fail
  go_ret
  exact newV_leaf _ ⟨rfl, rfl⟩
set_option maxHeartbeats 1000000 in
theorem v_int (hc : CellsP w b o 3 n s la ln lc) : Calls Tryd.prog 31 #[.pointer (some ⟨b, o, none⟩)] w (NewV w (.int n)) := by
  obtain ⟨h0, h1, h2, h3⟩ := hc
  go_enter Tryd.func31, Tryd.ntmps31
  go_wp2_with fail
  go_ret
  exact newV_leaf _ ⟨rfl, rfl⟩
set_option maxHeartbeats 1000000 in
theorem v_text (hc : CellsP w b o 4 n s la ln lc) : Calls Tryd.prog 31 #[.pointer (some ⟨b, o, none⟩)] w (NewV w (.text s)) := by
  obtain ⟨h0, h1, h2, h3⟩ := hc
  go_enter Tryd.func31, Tryd.ntmps31
  go_wp2_with fail
  go_ret
  exact newV_leaf _ ⟨rfl, rfl⟩
theorem info30 : (Tryd.prog.info? 30).map (fun i => (i.zero, i.size, i.bytes)) = some (some .nilIface, 1, 16) := by kernel_rfl
theorem toNat_nat (n : Nat) : (n : Int).toNat = n := rfl
set_option maxHeartbeats 1000000 in
theorem v_list (l : List PT) (b' o' : Nat) (ih : ∀ p ∈ l, ValueFor p) (hc : CellsP w b o k n s la l.length lc) (k1 : (k == 1) = false) (k2 : (k == 2) = false) (k3 : (k == 3) = false) (k4 : (k == 4) = false)
   (hln : l.length ≤ 4398046511104) (hla : l ≠ [] → la = some ⟨b', o', none⟩) (hin : InPs w b' o' l) :
   Calls Tryd.prog 31 #[.pointer (some ⟨b, o, none⟩)] w (NewV w (.list (l.map valOf))) := by
  obtain ⟨h0, h1, h2, h3⟩ := hc
  have H : Hid (∀ p ∈ l, ValueFor p) := Lib.hid ih
  have HL : Hid (l ≠ [] → la = some ⟨b', o', none⟩) := Lib.hid hla
  have HI : Hid (InPs w b' o' l) := Lib.hid hin
  have hb0 : b < w.heap.size := cell_lt h0
  clear ih hla hin
  obtain ⟨i0, hi, hz0, hz1, hz2⟩ := info_parts info30
  have HZ1 := Lib.hid hz1; clear hz1
  have HZ2 := Lib.hid hz2; clear hz2
  have HZ0 := Lib.hid hz0; clear hz0
  have HI0 := Lib.hid hi; clear hi
  go_enter Tryd.func31, Tryd.ntmps31
  go_wp2_with (at_make; refine wpList_make_own _ rfl _ _ 61 rfl w.heap.size 30 i0 .nilIface 1 Tryd.underlying61 HI0.out HZ0.out HZ1.out .i64 .i64 _ l.length rfl rfl rfl (by rw [HZ2.out]; omega) (by unfold maxLen; omega) (Nat.le_refl _) ?_; intro w0 hown0 hgrow0; have hB0 : Below w.heap.size w w0 := (Below.refl _ _).grown hgrow0 (Nat.le_refl _) (by simp); have h3' := (hB0.cell (p := ⟨b, o + 3, none⟩) hb0).trans h3)
  have HO0 := Lib.hid hown0
  clear hown0 hgrow0
  obtain ⟨N, hN⟩ : ∃ N, N = w.heap.size := ⟨_, rfl⟩
  have hNN := Lib.hid hN
  have hlt0 : N < w0.heap.size := by rw [hN]; exact (HO0.out.lt _ rfl).2
  simp only [← hN] at hb0 HO0 hB0 ⊢
  clear hN
  go_loopw [3, 46] (fun sv iv wr => ∃ (i : Nat) (vs : List Value) (bs : List Nat), i ≤ l.length ∧ iv = .int .i64 i ∧ sv = .slice (some ⟨N, 0, none⟩) i l.length ∧
      Hid (wr.ownsRow N 30 1 (.slice (some ⟨N, 0, none⟩) i l.length) i vs) ∧ Hid (RepVs wr ((l.take i).map valOf) vs bs) ∧ Hid ((N :: bs).Nodup) ∧ Hid (∀ g ∈ bs, N < g) ∧ Below N w wr ∧ N < wr.heap.size)
    (fun _ i _ => l.length - (intOf i).toNat)
  case atStart => exact ⟨0, [], [], by omega, rfl, rfl, HO0, Lib.hid ⟨rfl, rfl⟩, Lib.hid (by simp), Lib.hid (by simp), hB0, hlt0⟩
  case round =>
    obtain ⟨i, vs, bs, hil, rfl, rfl, hown, hrep, hnd, hgt, hB, hsz⟩ := hrel
    have hBw : Below w.heap.size w wr := by rw [← hNN.out]; exact hB
    have HBw := Lib.hid hBw
    clear hBw
    have h3r := (hB.cell (p := ⟨b, o + 3, none⟩) hb0).trans h3
    by_cases hlt : i < l.length
    · obtain rfl := HL.out (by intro h; subst h; simp at hlt)
      have HC := Lib.hid (H.out l[i] (List.getElem_mem hlt) wr b' (o' + i * 4) (by rw [Nat.mul_comm]; exact InP.below HBw.out _ _ _ (InPs.get l b' o' i hlt HI.out)))
      go_wp2_with fail
      refine HC.out.mono ?_
      rintro e w1 ⟨v, b1, rfl, hv, hnd1, hge1, hB1⟩
      obtain ⟨ty, u, rfl⟩ := hv.iface
      have HV := Lib.hid hv
      have HO1 : Hid (w1.ownsRow N 30 1 (.slice (some ⟨N, 0, none⟩) i l.length) i vs) := ownsRow_keep hown.out (fun g hg => by obtain rfl : N = g := (by simpa [Value.ownBlock] using hg); exact hB1.block _ hsz)
      have HR1 : Hid (RepVs w1 ((l.take i).map valOf) vs bs) := RepVs.keep _ _ _ (fun g hg => hB1.block _ (RepVs.lt _ _ _ hrep.out g hg)) hrep.out
      have HG1 := Lib.hid hge1
      have HN1 := Lib.hid hnd1
      clear hv hnd1 hge1
      go_wp2_with (at_builtin; refine wpList_append_fits _ rfl _ _ 61 rfl N 30 i0 1 Tryd.underlying61 HI0.out HZ1.out N i l.length vs rfl (HO1.out.alloc _) _ 1 1 [.iface ty u] rfl rfl (one_new _ _ _) (by simp; rfl) (by omega) ?_; intro w2 hown2 hgrow2; have HO2 := Lib.hid hown2; have HG2 := Lib.hid hgrow2; clear hown2 hgrow2)
      go_roundw
      case rel =>
        have hg := HG2.out
        have hk2 : ∀ g, g < w1.heap.size → g ≠ N → w2.heap[g]? = w1.heap[g]? := fun g hg1 hg2 => (hg.block g (by simp; omega) (by simpa using hg2)).trans (Below.heap_alloc w1 _ g hg1)
        have hge := HG1.out
        have hr2 : RepVs w2 ((l.take (i + 1)).map valOf) (vs ++ [.iface ty u]) (bs ++ b1) := by
          rw [List.take_succ_eq_append_getElem hlt, List.map_append]
          refine RepVs.snoc _ _ _ _ _ _ (RepVs.keep _ _ _ (fun g hg => hk2 g (RepVs.lt _ _ _ HR1.out g hg) (by have := hgt.out g hg; omega)) HR1.out) (RepV.keep _ _ _ (fun g hg => hk2 g (RepV.lt _ _ _ HV.out g hg) (by have := hge g hg; omega)) HV.out)
        have hnd2 : (N :: (bs ++ b1)).Nodup := by
          have h1 := hnd.out
          rw [List.nodup_cons] at h1 ⊢
          refine ⟨fun hm => ?_, List.nodup_append.2 ⟨h1.2, HN1.out, fun x hx y hy e => ?_⟩⟩
          · rcases List.mem_append.1 hm with hm | hm
            · exact h1.1 hm
            · have := hge N hm; omega
          · have h5 := RepVs.lt _ _ _ hrep.out x hx
            have h6 := hge y hy
            omega
        refine ⟨i + 1, vs ++ [.iface ty u], bs ++ b1, by omega, by go_num, rfl, HO2, Lib.hid hr2, Lib.hid hnd2, Lib.hid (fun g hg => ?_), ?_, ?_⟩
        · rcases List.mem_append.1 hg with hg | hg
          · exact hgt.out g hg
          · have := hge g hg; omega
        · exact (((hB.trans (hB1.mono (by omega))).alloc (by have := hB1.size; omega) _).grown hg (by have := hB1.size; simp; omega) (by simp))
        · have h1 := hg.size
          have := hB1.size
          simp at h1
          omega
      case measure => simp [intOf]; omega
    · obtain rfl : i = l.length := by omega
      go_wp2_with fail
      go_ret
      refine ⟨_, N :: bs, rfl, ⟨_, vs, bs, rfl, ?_, by simpa using hrep.out, rfl⟩, hnd.out, fun g hg => ?_, HBw.out⟩
      · have h1 := hown.out
        simp only [List.length_map]
        exact ⟨h1.1, h1.2.imp id fun ⟨g, cap, cur, a1, a2, a3⟩ => ⟨g, cap, cur, a1, Nat.zero_le _, a3⟩⟩
      · rw [← hNN.out]
        rcases List.mem_cons.1 hg with rfl | hg
        · exact Nat.le_refl _
        · have := hgt.out g hg; omega
mutual
theorem value_any : ∀ (p : PT), ValueFor p
  | .mk k n s l => by
    intro w b o hin
    have ih := value_all l
    simp only [InP] at hin
    obtain ⟨hs, hln, la, lc, hc, hla⟩ := hin
    unfold valOf
    by_cases h1 : k = 1
    · subst h1; rw [if_pos rfl]; exact v_unit w b o n s la _ lc hc
    · rw [if_neg h1]
      by_cases h2 : k = 2
      · subst h2; rw [if_pos rfl]; exact v_truth w b o n s la _ lc hc
      · rw [if_neg h2]
        by_cases h3 : k = 3
        · subst h3; rw [if_pos rfl]; exact v_int w b o n s la _ lc hc
        · rw [if_neg h3]
          by_cases h4 : k = 4
          · subst h4; rw [if_pos rfl]; exact v_text w b o n s la _ lc hc
          · rw [if_neg h4, valsOf_eq]
            by_cases hl0 : l = []
            · subst hl0
              exact v_list w b o k n s la lc [] 0 0 (by simp) hc (by simpa using h1) (by simpa using h2) (by simpa using h3) (by simpa using h4) (by simp) (by simp) trivial
            · obtain ⟨b', o', e, hin⟩ := hla hl0
              exact v_list w b o k n s la lc l b' o' ih hc (by simpa using h1) (by simpa using h2) (by simpa using h3) (by simpa using h4) hln (fun _ => e) hin
theorem value_all : ∀ (l : List PT), ∀ p ∈ l, ValueFor p
  | [], p, h => by simp at h
  | q :: r, p, h => by
    have h1 := value_any q
    have h2 := value_all r
    rcases List.mem_cons.1 h with rfl | h
    · exact h1
    · exact h2 p h
end
end

section
@[go_sem] theorem as90_90 (v : Value) (w : World) : (Instr.typeAssert (.iface 90 v) 30 90 true).run Tryd.prog w = .ok (.tuple #[v, .bool true]) w := by kernel_rfl
@[go_sem] theorem must90_90 (v : Value) (w : World) : (Instr.typeAssert (.iface 90 v) 30 90 false).run Tryd.prog w = .ok v w := by kernel_rfl
@[go_sem] theorem as90_63 (v : Value) (w : World) : (Instr.typeAssert (.iface 90 v) 30 63 true).run Tryd.prog w = .ok (.tuple #[.bool false, .bool false]) w := by kernel_rfl
@[go_sem] theorem as90_58 (v : Value) (w : World) : (Instr.typeAssert (.iface 90 v) 30 58 true).run Tryd.prog w = .ok (.tuple #[.int .i64 0, .bool false]) w := by kernel_rfl
@[go_sem] theorem as90_88 (v : Value) (w : World) : (Instr.typeAssert (.iface 90 v) 30 88 true).run Tryd.prog w = .ok (.tuple #[.string ⟨#[]⟩, .bool false]) w := by kernel_rfl
@[go_sem] theorem as90_61 (v : Value) (w : World) : (Instr.typeAssert (.iface 90 v) 30 61 true).run Tryd.prog w = .ok (.tuple #[.slice none 0 0, .bool false]) w := by kernel_rfl
@[go_sem] theorem as63_90 (v : Value) (w : World) : (Instr.typeAssert (.iface 63 v) 30 90 true).run Tryd.prog w = .ok (.tuple #[.agg #[], .bool false]) w := by kernel_rfl
@[go_sem] theorem as63_63 (v : Value) (w : World) : (Instr.typeAssert (.iface 63 v) 30 63 true).run Tryd.prog w = .ok (.tuple #[v, .bool true]) w := by kernel_rfl
@[go_sem] theorem must63_63 (v : Value) (w : World) : (Instr.typeAssert (.iface 63 v) 30 63 false).run Tryd.prog w = .ok v w := by kernel_rfl
@[go_sem] theorem as63_58 (v : Value) (w : World) : (Instr.typeAssert (.iface 63 v) 30 58 true).run Tryd.prog w = .ok (.tuple #[.int .i64 0, .bool false]) w := by kernel_rfl
@[go_sem] theorem as63_88 (v : Value) (w : World) : (Instr.typeAssert (.iface 63 v) 30 88 true).run Tryd.prog w = .ok (.tuple #[.string ⟨#[]⟩, .bool false]) w := by kernel_rfl
@[go_sem] theorem as63_61 (v : Value) (w : World) : (Instr.typeAssert (.iface 63 v) 30 61 true).run Tryd.prog w = .ok (.tuple #[.slice none 0 0, .bool false]) w := by kernel_rfl
@[go_sem] theorem as58_90 (v : Value) (w : World) : (Instr.typeAssert (.iface 58 v) 30 90 true).run Tryd.prog w = .ok (.tuple #[.agg #[], .bool false]) w := by kernel_rfl
@[go_sem] theorem as58_63 (v : Value) (w : World) : (Instr.typeAssert (.iface 58 v) 30 63 true).run Tryd.prog w = .ok (.tuple #[.bool false, .bool false]) w := by kernel_rfl
@[go_sem] theorem as58_58 (v : Value) (w : World) : (Instr.typeAssert (.iface 58 v) 30 58 true).run Tryd.prog w = .ok (.tuple #[v, .bool true]) w := by kernel_rfl
@[go_sem] theorem must58_58 (v : Value) (w : World) : (Instr.typeAssert (.iface 58 v) 30 58 false).run Tryd.prog w = .ok v w := by kernel_rfl
@[go_sem] theorem as58_88 (v : Value) (w : World) : (Instr.typeAssert (.iface 58 v) 30 88 true).run Tryd.prog w = .ok (.tuple #[.string ⟨#[]⟩, .bool false]) w := by kernel_rfl
@[go_sem] theorem as58_61 (v : Value) (w : World) : (Instr.typeAssert (.iface 58 v) 30 61 true).run Tryd.prog w = .ok (.tuple #[.slice none 0 0, .bool false]) w := by kernel_rfl
@[go_sem] theorem as88_90 (v : Value) (w : World) : (Instr.typeAssert (.iface 88 v) 30 90 true).run Tryd.prog w = .ok (.tuple #[.agg #[], .bool false]) w := by kernel_rfl
@[go_sem] theorem as88_63 (v : Value) (w : World) : (Instr.typeAssert (.iface 88 v) 30 63 true).run Tryd.prog w = .ok (.tuple #[.bool false, .bool false]) w := by kernel_rfl
@[go_sem] theorem as88_58 (v : Value) (w : World) : (Instr.typeAssert (.iface 88 v) 30 58 true).run Tryd.prog w = .ok (.tuple #[.int .i64 0, .bool false]) w := by kernel_rfl
@[go_sem] theorem as88_88 (v : Value) (w : World) : (Instr.typeAssert (.iface 88 v) 30 88 true).run Tryd.prog w = .ok (.tuple #[v, .bool true]) w := by kernel_rfl
@[go_sem] theorem must88_88 (v : Value) (w : World) : (Instr.typeAssert (.iface 88 v) 30 88 false).run Tryd.prog w = .ok v w := by kernel_rfl
@[go_sem] theorem as88_61 (v : Value) (w : World) : (Instr.typeAssert (.iface 88 v) 30 61 true).run Tryd.prog w = .ok (.tuple #[.slice none 0 0, .bool false]) w := by kernel_rfl
@[go_sem] theorem as61_90 (v : Value) (w : World) : (Instr.typeAssert (.iface 61 v) 30 90 true).run Tryd.prog w = .ok (.tuple #[.agg #[], .bool false]) w := by kernel_rfl
@[go_sem] theorem as61_63 (v : Value) (w : World) : (Instr.typeAssert (.iface 61 v) 30 63 true).run Tryd.prog w = .ok (.tuple #[.bool false, .bool false]) w := by kernel_rfl
@[go_sem] theorem as61_58 (v : Value) (w : World) : (Instr.typeAssert (.iface 61 v) 30 58 true).run Tryd.prog w = .ok (.tuple #[.int .i64 0, .bool false]) w := by kernel_rfl
@[go_sem] theorem as61_88 (v : Value) (w : World) : (Instr.typeAssert (.iface 61 v) 30 88 true).run Tryd.prog w = .ok (.tuple #[.string ⟨#[]⟩, .bool false]) w := by kernel_rfl
@[go_sem] theorem as61_61 (v : Value) (w : World) : (Instr.typeAssert (.iface 61 v) 30 61 true).run Tryd.prog w = .ok (.tuple #[v, .bool true]) w := by kernel_rfl
@[go_sem] theorem must61_61 (v : Value) (w : World) : (Instr.typeAssert (.iface 61 v) 30 61 false).run Tryd.prog w = .ok v w := by kernel_rfl
@[go_sem] theorem asnil_90 (w : World) : (Instr.typeAssert .nilIface 30 90 true).run Tryd.prog w = .ok (.tuple #[.agg #[], .bool false]) w := by kernel_rfl
@[go_sem] theorem asnil_63 (w : World) : (Instr.typeAssert .nilIface 30 63 true).run Tryd.prog w = .ok (.tuple #[.bool false, .bool false]) w := by kernel_rfl
@[go_sem] theorem asnil_58 (w : World) : (Instr.typeAssert .nilIface 30 58 true).run Tryd.prog w = .ok (.tuple #[.int .i64 0, .bool false]) w := by kernel_rfl
@[go_sem] theorem asnil_88 (w : World) : (Instr.typeAssert .nilIface 30 88 true).run Tryd.prog w = .ok (.tuple #[.string ⟨#[]⟩, .bool false]) w := by kernel_rfl
@[go_sem] theorem asnil_61 (w : World) : (Instr.typeAssert .nilIface 30 61 true).run Tryd.prog w = .ok (.tuple #[.slice none 0 0, .bool false]) w := by kernel_rfl
end

section
open Go.RowKit
set_option maxRecDepth 100000
def ordI (a b : Int) : Int := if a < b then -1 else if b < a then 1 else 0
def ordS (a b : ByteArray) : Int := if Op.bytesLess a.toList b.toList then -1 else if (a.toList == b.toList) then 0 else 1
def bitI (b : Bool) : Int := if b then 1 else 0
theorem ordI_lt {a b : Int} (h : a < b) : ordI a b = -1 := if_pos h
theorem ordI_gt {a b : Int} (h : b < a) : ordI a b = 1 := by unfold ordI; rw [if_neg (by omega), if_pos h]
theorem ordI_eq {a b : Int} (h : a = b) : ordI a b = 0 := by unfold ordI; rw [if_neg (by omega), if_neg (by omega)]
theorem ret_int {k : IntKind} {a b : Int} (h : a = b) : Ending.returned (.int k a) = .returned (.int k b) := by rw [h]
set_option maxHeartbeats 1000000 in
theorem order_int (w : World) (a b : Int) : Calls Tryd.prog 53 #[.int .i64 a, .int .i64 b] w fun e w' => e = .returned (.int .i64 (ordI a b)) ∧ w = w' := by
  rcases Int.lt_trichotomy a b with h | h | h
  · have H := Lib.hid (ordI_lt h)
    go_enter Tryd.func53, Tryd.ntmps53
    go_wp2_with fail
    go_ret
    exact ⟨ret_int H.out.symm, rfl⟩
  · subst h
    have H := Lib.hid (ordI_eq (rfl : a = a))
    go_enter Tryd.func53, Tryd.ntmps53
    go_wp2_with fail
    go_ret
    exact ⟨ret_int H.out.symm, rfl⟩
  · have H := Lib.hid (ordI_gt h)
    have h' : ¬ a < b := by omega
    go_enter Tryd.func53, Tryd.ntmps53
    go_wp2_with fail
    go_ret
    exact ⟨ret_int H.out.symm, rfl⟩
set_option maxHeartbeats 1000000 in
theorem order_Int (w : World) (a b : Int) : Calls Tryd.prog 56 #[.int .i64 a, .int .i64 b] w fun e w' => e = .returned (.int .i64 (ordI a b)) ∧ w = w' := by
  rcases Int.lt_trichotomy a b with h | h | h
  · have H := Lib.hid (ordI_lt h)
    go_enter Tryd.func56, Tryd.ntmps56
    go_wp2_with fail
    go_ret
    exact ⟨ret_int H.out.symm, rfl⟩
  · subst h
    have H := Lib.hid (ordI_eq (rfl : a = a))
    go_enter Tryd.func56, Tryd.ntmps56
    go_wp2_with fail
    go_ret
    exact ⟨ret_int H.out.symm, rfl⟩
  · have H := Lib.hid (ordI_gt h)
    have h' : ¬ a < b := by omega
    go_enter Tryd.func56, Tryd.ntmps56
    go_wp2_with fail
    go_ret
    exact ⟨ret_int H.out.symm, rfl⟩
set_option maxHeartbeats 1000000 in
theorem order_Text (w : World) (a b : ByteArray) : Calls Tryd.prog 57 #[.string a, .string b] w fun e w' => e = .returned (.int .i64 (ordS a b)) ∧ w = w' := by
  cases h1 : Op.bytesLess a.toList b.toList with
  | true =>
    have H : Hid (ordS a b = -1) := by show ordS a b = -1; unfold ordS; rw [if_pos h1]
    go_enter Tryd.func57, Tryd.ntmps57
    go_wp2_with fail
    go_ret
    exact ⟨ret_int H.out.symm, rfl⟩
  | false =>
    cases h2 : (a.toList == b.toList) with
    | true =>
      have H : Hid (ordS a b = 0) := by show ordS a b = 0; unfold ordS; rw [if_neg (by simp [h1]), if_pos h2]
      go_enter Tryd.func57, Tryd.ntmps57
      go_wp2_with fail
      go_ret
      exact ⟨ret_int H.out.symm, rfl⟩
    | false =>
      have H : Hid (ordS a b = 1) := by show ordS a b = 1; unfold ordS; rw [if_neg (by simp [h1]), if_neg (by simp [h2])]
      go_enter Tryd.func57, Tryd.ntmps57
      go_wp2_with fail
      go_ret
      exact ⟨ret_int H.out.symm, rfl⟩
theorem bit_any (w : World) (b : Bool) : Calls Tryd.prog 55 #[.bool b] w fun e w' => e = .returned (.int .i64 (bitI b)) ∧ w = w' := by
  cases b
  · go_enter Tryd.func55, Tryd.ntmps55
    go_wp2_with fail
    go_ret
    exact ⟨rfl, rfl⟩
  · go_enter Tryd.func55, Tryd.ntmps55
    go_wp2_with fail
    go_ret
    exact ⟨rfl, rfl⟩
def rankT (ty : TypeId) : Int := if ty = 90 then 0 else if ty = 63 then 1 else if ty = 58 then 2 else if ty = 88 then 3 else 4
set_option maxHeartbeats 1000000 in
theorem rank_90 (w : World) (u : Value) : Calls Tryd.prog 54 #[.iface 90 u] w fun e w' => e = .returned (.int .i64 0) ∧ w = w' := by
  go_enter Tryd.func54, Tryd.ntmps54
  go_wp2_with fail
  go_ret
  exact ⟨rfl, rfl⟩
set_option maxHeartbeats 1000000 in
theorem rank_63 (w : World) (u : Value) : Calls Tryd.prog 54 #[.iface 63 u] w fun e w' => e = .returned (.int .i64 1) ∧ w = w' := by
  go_enter Tryd.func54, Tryd.ntmps54
  go_wp2_with fail
  go_ret
  exact ⟨rfl, rfl⟩
set_option maxHeartbeats 1000000 in
theorem rank_58 (w : World) (u : Value) : Calls Tryd.prog 54 #[.iface 58 u] w fun e w' => e = .returned (.int .i64 2) ∧ w = w' := by
  go_enter Tryd.func54, Tryd.ntmps54
  go_wp2_with fail
  go_ret
  exact ⟨rfl, rfl⟩
set_option maxHeartbeats 1000000 in
theorem rank_88 (w : World) (u : Value) : Calls Tryd.prog 54 #[.iface 88 u] w fun e w' => e = .returned (.int .i64 3) ∧ w = w' := by
  go_enter Tryd.func54, Tryd.ntmps54
  go_wp2_with fail
  go_ret
  exact ⟨rfl, rfl⟩
set_option maxHeartbeats 1000000 in
theorem rank_61 (w : World) (u : Value) : Calls Tryd.prog 54 #[.iface 61 u] w fun e w' => e = .returned (.int .i64 4) ∧ w = w' := by
  go_enter Tryd.func54, Tryd.ntmps54
  go_wp2_with fail
  go_ret
  exact ⟨rfl, rfl⟩
def tyOf : VT → TypeId
  | .unit => 90
  | .truth _ => 63
  | .int _ => 58
  | .text _ => 88
  | .list _ => 61
def rankV : VT → Int
  | .unit => 0
  | .truth _ => 1
  | .int _ => 2
  | .text _ => 3
  | .list _ => 4
theorem RepV.ty {w : World} : ∀ (t : VT) (v : Value) (bs : List Nat), RepV w t v bs → ∃ u, v = .iface (tyOf t) u
  | .unit, v, bs, h => ⟨_, h.1⟩
  | .truth b, v, bs, h => ⟨_, h.1⟩
  | .int n, v, bs, h => ⟨_, h.1⟩
  | .text s, v, bs, h => ⟨_, h.1⟩
  | .list l, v, bs, h => by obtain ⟨sv, vs, bl, h1, _⟩ := h; exact ⟨_, h1⟩
theorem rank_any (w : World) (t : VT) (u : Value) : Calls Tryd.prog 54 #[.iface (tyOf t) u] w fun e w' => e = .returned (.int .i64 (rankV t)) ∧ w = w' := by
  cases t
  · exact rank_90 w u
  · exact rank_63 w u
  · exact rank_58 w u
  · exact rank_88 w u
  · exact rank_61 w u
end

section
open Go.RowKit
set_option maxRecDepth 100000
mutual
def cmpV : VT → VT → Int
  | .truth a, .truth b => ordI (bitI a) (bitI b)
  | .int a, .int b => ordI a b
  | .text a, .text b => ordS a b
  | .list a, .list b => cmpL a b
  | a, b => ordI (rankV a) (rankV b)
def cmpL : List VT → List VT → Int
  | [], [] => 0
  | [], _ :: _ => -1
  | _ :: _, [] => 1
  | a :: r, b :: r' => if cmpV a b ≠ 0 then cmpV a b else cmpL r r'
end
theorem cmpV_rank {a b : VT} (h : rankV a ≠ rankV b) : cmpV a b = ordI (rankV a) (rankV b) := by
  cases a <;> cases b <;> first | rfl | exact absurd rfl h
def CmpP (w : World) (r : Int) (e : Ending) (w' : World) : Prop := e = .returned (.int .i64 r) ∧ ∃ n, w' = w.drewN n
def CmpFor (a : VT) : Prop := ∀ (b : VT) (w : World) (v u : Value) (bs cs : List Nat), RepV w a v bs → RepV w b u cs → Calls Tryd.prog 38 #[v, u] w (CmpP w (cmpV a b))
theorem ordI_ne {a b : Int} (h : a ≠ b) : ordI a b ≠ 0 := by
  rcases Int.lt_or_gt_of_ne h with h | h
  · rw [ordI_lt h]; decide
  · rw [ordI_gt h]; decide
set_option maxHeartbeats 1000000 in
theorem c_rank (w : World) (a b : VT) (x y : Value) (h : rankV a ≠ rankV b) : Calls Tryd.prog 38 #[.iface (tyOf a) x, .iface (tyOf b) y] w (CmpP w (cmpV a b)) := by
  rw [cmpV_rank h]
  have hne : (ordI (rankV a) (rankV b) != 0) = true := by simpa using ordI_ne h
  clear h
  go_enter Tryd.func38, Tryd.ntmps38
  go_wp2_with fail
  refine (rank_any _ a x).mono ?_; rintro e w' ⟨rfl, rfl⟩
  go_wp2_with fail
  refine (rank_any _ b y).mono ?_; rintro e w' ⟨rfl, rfl⟩
  go_wp2_with fail
  refine (order_int _ _ _).mono ?_; rintro e w' ⟨rfl, rfl⟩
  go_wp2_with fail
  go_ret
  exact ⟨rfl, 0, rfl⟩
theorem Calls.back {P : Program} {f : FuncId} {args : Array Value} {w : World} {v : Value} (h : Calls P f args w fun e w' => e = .returned v ∧ w = w') : Calls P f args w fun e w' => e = .returned v ∧ w' = w := h.mono fun _ _ ⟨a, b⟩ => ⟨a, b.symm⟩
theorem ordI_self (a : Int) : ordI a a = 0 := ordI_eq rfl
set_option maxHeartbeats 1000000 in
theorem c_unit (w : World) : Calls Tryd.prog 38 #[.iface 90 (.agg #[]), .iface 90 (.agg #[])] w (CmpP w 0) := by
  have h0 : (ordI 0 0 != 0) = false := rfl
  go_enter Tryd.func38, Tryd.ntmps38
  go_wp2_with (first | (go_at_call 54; (with_reducible refine (rank_90 _ _).mono ?_); rintro e w' ⟨rfl, rfl⟩) | (go_at_call 53; (with_reducible refine (order_int _ _ _).mono ?_); rintro e w' ⟨rfl, rfl⟩))
  go_ret
  exact ⟨rfl, 0, rfl⟩
set_option maxHeartbeats 1000000 in
theorem c_int (w : World) (a b : Int) : Calls Tryd.prog 38 #[.iface 58 (.int .i64 a), .iface 58 (.int .i64 b)] w (CmpP w (ordI a b)) := by
  have h0 : (ordI 2 2 != 0) = false := rfl
  go_enter Tryd.func38, Tryd.ntmps38
  go_wp2_with (first | (go_at_call 54; (with_reducible refine (rank_58 _ _).mono ?_); rintro e w' ⟨rfl, rfl⟩) | (go_at_call 53; (with_reducible refine (order_int _ _ _).mono ?_); rintro e w' ⟨rfl, rfl⟩) | (go_at_call 56; (with_reducible refine (order_Int _ _ _).mono ?_); rintro e w' ⟨rfl, rfl⟩))
  go_ret
  exact ⟨rfl, 0, rfl⟩
set_option maxHeartbeats 1000000 in
theorem c_text (w : World) (a b : ByteArray) : Calls Tryd.prog 38 #[.iface 88 (.string a), .iface 88 (.string b)] w (CmpP w (ordS a b)) := by
  have h0 : (ordI 3 3 != 0) = false := rfl
  go_enter Tryd.func38, Tryd.ntmps38
  go_wp2_with (first | (go_at_call 54; (with_reducible refine (rank_88 _ _).mono ?_); rintro e w' ⟨rfl, rfl⟩) | (go_at_call 53; (with_reducible refine (order_int _ _ _).mono ?_); rintro e w' ⟨rfl, rfl⟩) | (go_at_call 57; (with_reducible refine (order_Text _ _ _).mono ?_); rintro e w' ⟨rfl, rfl⟩))
  go_ret
  exact ⟨rfl, 0, rfl⟩
set_option maxHeartbeats 1000000 in
theorem c_truth (w : World) (a b : Bool) : Calls Tryd.prog 38 #[.iface 63 (.bool a), .iface 63 (.bool b)] w (CmpP w (ordI (bitI a) (bitI b))) := by
  have h0 : (ordI 1 1 != 0) = false := rfl
  go_enter Tryd.func38, Tryd.ntmps38
  go_wp2_with (first | (go_at_call 54; (with_reducible refine (rank_63 _ _).mono ?_); rintro e w' ⟨rfl, rfl⟩) | (go_at_call 53; (with_reducible refine (order_int _ _ _).mono ?_); rintro e w' ⟨rfl, rfl⟩))
  go_quiet (first | (go_at_call 55; exact Calls.quiet_of_same (Calls.back (bit_any _ _))) | (go_at_call 53; exact Calls.quiet_of_same (Calls.back (order_int _ _ _))))
  go_wp2_with fail
  go_ret
  exact ⟨rfl, nq, rfl⟩
theorem own_cells {w : World} {sv : Value} {n : Nat} {vs : List Value} (h : w.ownsRow 0 30 1 sv n vs) : ∃ la lc, sv = .slice la n lc ∧ n ≤ 9223372036854775807 ∧ (0 < n → ∃ g, la = some ⟨g, 0, none⟩ ∧ ∀ (j : Nat) (u : Value), vs[j]? = some u → w.cell? ⟨g, j, none⟩ = some u) := by
  have hc := fun (g : Nat) (e : sv.ownBlock = some g) => h.cells e
  rcases h.2 with ⟨rfl, rfl⟩ | ⟨g, cap, cur, rfl, _, _, hn, hm, _⟩
  · exact ⟨none, 0, rfl, by omega, fun hn => by omega⟩
  · refine ⟨_, cap, rfl, by unfold maxLen at hm; omega, fun _ => ⟨g, rfl, fun j u hu => ?_⟩⟩
    have := hc g rfl j u hu
    rwa [show (⟨g, 0, none⟩ : Addr).add j = ⟨g, j, none⟩ from by unfold Addr.add; split <;> simp_all] at this
set_option maxHeartbeats 2000000 in
theorem c_list (w : World) (a b : List VT) (ih : ∀ x ∈ a, CmpFor x) (v u : Value) (bs cs : List Nat) (hv : RepV w (.list a) v bs) (hu : RepV w (.list b) u cs) : Calls Tryd.prog 38 #[v, u] w (CmpP w (cmpL a b)) := by
  obtain ⟨sv, vs, bl, rfl, ho, hr, _⟩ := hv
  obtain ⟨su, us, cl, rfl, ho', hr', _⟩ := hu
  obtain ⟨la, lc, rfl, hmx, hca⟩ := own_cells ho
  obtain ⟨la', lc', rfl, hmx', hca'⟩ := own_cells ho'
  have HI := Lib.hid ih
  have HA := Lib.hid hca
  have HB := Lib.hid hca'
  have HR := Lib.hid hr
  have HR' := Lib.hid hr'
  clear ih hca hca' hr hr' ho ho'
  have h0 : (ordI 4 4 != 0) = false := rfl
  go_enter Tryd.func38, Tryd.ntmps38
  go_wp2_with (first | (go_at_call 54; (with_reducible refine (rank_61 _ _).mono ?_); rintro e w' ⟨rfl, rfl⟩) | (go_at_call 53; (with_reducible refine (order_int _ _ _).mono ?_); rintro e w' ⟨rfl, rfl⟩))
  go_loopw [11] (fun iv wr => ∃ (i : Nat), i ≤ a.length ∧ i ≤ b.length ∧ iv = .int .i64 i ∧ Hid (∃ m, wr = w.drewN m) ∧ Hid (cmpL (a.drop i) (b.drop i) = cmpL a b))
    (fun i _ => a.length - (intOf i).toNat)
  case atStart => exact ⟨0, by omega, by omega, rfl, Lib.hid ⟨0, rfl⟩, Lib.hid (by simp)⟩
  case round =>
    obtain ⟨i, hi, hi', rfl, hw, hm⟩ := hrel
    have hcell : ∀ x, wr.cell? x = w.cell? x := by obtain ⟨m, rfl⟩ := hw.out; intro x; rfl
    have HC := Lib.hid hcell
    clear hcell
    by_cases hlt : i < a.length
    · by_cases hlt' : i < b.length
      · obtain ⟨g, rfl, hg⟩ := HA.out (by omega)
        obtain ⟨g', rfl, hg'⟩ := HB.out (by omega)
        obtain ⟨x, bx, hx, hrx, _⟩ := RepVs.get _ _ _ HR.out i hlt
        obtain ⟨y, cy, hy, hry, _⟩ := RepVs.get _ _ _ HR'.out i hlt'
        have c1 : wr.cell? ⟨g, i, none⟩ = some x := (HC.out _).trans (hg i x hx)
        have c2 : wr.cell? ⟨g', i, none⟩ = some y := (HC.out _).trans (hg' i y hy)
        have hch : ∀ n, Calls Tryd.prog 38 #[x, y] (wr.drewN n) (CmpP (wr.drewN n) (cmpV a[i] b[i])) := fun n => by
          obtain ⟨m, rfl⟩ := hw.out
          exact HI.out a[i] (List.getElem_mem hlt) b[i] _ x y bx cy (RepV.keep (w := w) _ _ _ (fun _ _ => rfl) hrx) (RepV.keep (w := w) _ _ _ (fun _ _ => rfl) hry)
        have hstep : cmpL (a.drop i) (b.drop i) = if cmpV a[i] b[i] ≠ 0 then cmpV a[i] b[i] else cmpL (a.drop (i + 1)) (b.drop (i + 1)) := by
          rw [List.drop_eq_getElem_cons hlt, List.drop_eq_getElem_cons hlt', cmpL]
        obtain ⟨tx, ux, rfl⟩ := hrx.iface
        obtain ⟨ty, uy, rfl⟩ := hry.iface
        clear hrx hry hx hy hg hg'
        have HH := Lib.hid hch
        clear hch
        generalize cmpV a[i] b[i] = r at HH hstep
        have HS := Lib.hid hstep
        clear hstep
        cases hr0 : (r != 0) with
        | true =>
          go_wp2_with fail
          go_quiet ((go_at_call 38; exact Calls.quiet_of (HH.out _)))
          go_wp2_with fail
          go_ret
          refine ⟨ret_int ?_, ?_⟩
          · rw [← hm.out, HS.out, if_pos (by simpa using hr0)]
          · obtain ⟨m, rfl⟩ := hw.out
            exact ⟨_, World.drewN_drewN w m nq⟩
        | false =>
          go_wp2_with fail
          go_quiet ((go_at_call 38; exact Calls.quiet_of (HH.out _)))
          go_wp2_with fail
          go_roundw
          case rel => 
            refine ⟨i + 1, by omega, by omega, by go_num, ?_, ?_⟩
            · obtain ⟨m, rfl⟩ := hw.out
              exact Lib.hid ⟨_, World.drewN_drewN w m nq⟩
            · refine Lib.hid ?_
              rw [← hm.out, HS.out, if_neg (by simpa using hr0)]
          case measure => simp [intOf]; omega
      · have he : cmpL a b = ordI a.length b.length := by
          have hd : b.drop i = [] := List.drop_eq_nil_iff.2 (by omega)
          rw [← hm.out, ordI_gt (by omega), List.drop_eq_getElem_cons hlt, hd, cmpL]
        have HE := Lib.hid he
        clear he
        go_wp2_with (go_at_call 53; (with_reducible refine (order_int _ _ _).mono ?_); rintro e w' ⟨rfl, rfl⟩)
        go_ret
        exact ⟨ret_int HE.out.symm, hw.out⟩
    · have he : cmpL a b = ordI a.length b.length := by
        have hd : a.drop i = [] := List.drop_eq_nil_iff.2 (by omega)
        rw [← hm.out, hd]
        by_cases hlt' : i < b.length
        · rw [ordI_lt (by omega), List.drop_eq_getElem_cons hlt', cmpL]
        · have hd' : b.drop i = [] := List.drop_eq_nil_iff.2 (by omega)
          rw [ordI_eq (by omega), hd', cmpL]
      have HE := Lib.hid he
      clear he
      go_wp2_with (go_at_call 53; (with_reducible refine (order_int _ _ _).mono ?_); rintro e w' ⟨rfl, rfl⟩)
      go_ret
      exact ⟨ret_int HE.out.symm, hw.out⟩
mutual
theorem compare_any : ∀ (a : VT), CmpFor a
  | .unit => by
    intro b w v u bs cs hv hu
    obtain ⟨x, rfl⟩ := RepV.ty _ _ _ hv
    obtain ⟨y, rfl⟩ := RepV.ty _ _ _ hu
    by_cases h : rankV (.unit) = rankV b
    · cases b with
      | unit =>
        obtain ⟨e, _⟩ := hv; cases e; obtain ⟨e, _⟩ := hu; cases e
        exact c_unit w
      | _ => simp [rankV] at h
    · exact c_rank w _ _ x y h
  | .truth p => by
    intro b w v u bs cs hv hu
    obtain ⟨x, rfl⟩ := RepV.ty _ _ _ hv
    obtain ⟨y, rfl⟩ := RepV.ty _ _ _ hu
    by_cases h : rankV (.truth p) = rankV b
    · cases b with
      | truth q =>
        obtain ⟨e, _⟩ := hv; cases e; obtain ⟨e, _⟩ := hu; cases e
        exact c_truth w _ _
      | _ => simp [rankV] at h
    · exact c_rank w _ _ x y h
  | .int p => by
    intro b w v u bs cs hv hu
    obtain ⟨x, rfl⟩ := RepV.ty _ _ _ hv
    obtain ⟨y, rfl⟩ := RepV.ty _ _ _ hu
    by_cases h : rankV (.int p) = rankV b
    · cases b with
      | int q =>
        obtain ⟨e, _⟩ := hv; cases e; obtain ⟨e, _⟩ := hu; cases e
        exact c_int w _ _
      | _ => simp [rankV] at h
    · exact c_rank w _ _ x y h
  | .text p => by
    intro b w v u bs cs hv hu
    obtain ⟨x, rfl⟩ := RepV.ty _ _ _ hv
    obtain ⟨y, rfl⟩ := RepV.ty _ _ _ hu
    by_cases h : rankV (.text p) = rankV b
    · cases b with
      | text q =>
        obtain ⟨e, _⟩ := hv; cases e; obtain ⟨e, _⟩ := hu; cases e
        exact c_text w _ _
      | _ => simp [rankV] at h
    · exact c_rank w _ _ x y h
  | .list p => by
    have ih := compare_all p
    intro b w v u bs cs hv hu
    by_cases h : rankV (.list p) = rankV b
    · cases b with
      | list q => exact c_list w p q ih v u bs cs hv hu
      | _ => simp [rankV] at h
    · obtain ⟨x, rfl⟩ := RepV.ty _ _ _ hv
      obtain ⟨y, rfl⟩ := RepV.ty _ _ _ hu
      exact c_rank w _ _ x y h
theorem compare_all : ∀ (l : List VT), ∀ p ∈ l, CmpFor p
  | [], p, h => by simp at h
  | q :: r, p, h => by
    have h1 := compare_any q
    have h2 := compare_all r
    rcases List.mem_cons.1 h with rfl | h
    · exact h1
    · exact h2 p h
end
end

section
open Go.RowKit
set_option maxRecDepth 100000
/-- A plain value handed in by value. -/
def ArgP (w : World) : PT → Value → Prop
  | .mk k n s l, v => s.size ≤ 140737488355328 ∧ l.length ≤ 4398046511104 ∧ ∃ la lc, v = .agg #[.int .i64 k, .int .i64 n, .string s, .slice la l.length lc] ∧ (l ≠ [] → ∃ b' o', la = some ⟨b', o', none⟩ ∧ InPs w b' o' l)
theorem ArgP.below {w w' : World} (hb : Below w.heap.size w w') {p : PT} {v : Value} (h : ArgP w p v) : ArgP w' p v := by
  cases p with
  | mk k n s l =>
    obtain ⟨h1, h2, la, lc, rfl, h4⟩ := h
    refine ⟨h1, h2, la, lc, rfl, fun hl => ?_⟩
    obtain ⟨b', o', e, hin⟩ := h4 hl
    exact ⟨b', o', e, InPs.below hb _ _ _ hin⟩
theorem InP.arg {w : World} {b o : Nat} {k n : Int} {s : ByteArray} {l : List PT} {la : Option Addr} {lc : Nat} (hs : s.size ≤ 140737488355328) (hl : l.length ≤ 4398046511104)
    (hc : CellsP w b o k n s la l.length lc) (h : l ≠ [] → ∃ b' o', la = some ⟨b', o', none⟩ ∧ InPs w b' o' l) : InP w b o (.mk k n s l) := ⟨hs, hl, la, lc, hc, h⟩
theorem cells_new (w : World) (a b c d : Value) (t : TypeId) : (w.alloc (.cells #[a, b, c, d] t)).cell? ⟨w.heap.size, 0, none⟩ = some a ∧ (w.alloc (.cells #[a, b, c, d] t)).cell? ⟨w.heap.size, 0 + 1, none⟩ = some b ∧
    (w.alloc (.cells #[a, b, c, d] t)).cell? ⟨w.heap.size, 0 + 2, none⟩ = some c ∧ (w.alloc (.cells #[a, b, c, d] t)).cell? ⟨w.heap.size, 0 + 3, none⟩ = some d := by
  have h := fun j => cell_of_row (w.alloc (.cells #[a, b, c, d] t)) w.heap.size j _ _ _ (heap_alloc_new w (.cells #[a, b, c, d] t))
  rw [h, h, h, h]
  exact ⟨rfl, rfl, rfl, rfl⟩
theorem alloc_below (w : World) (o : Obj) : Below w.heap.size w (w.alloc o) := (Below.refl _ _).alloc (Nat.le_refl _) _
theorem boxed {w : World} {k n : Int} {s : ByteArray} {l : List PT} {la : Option Addr} {lc : Nat} (hs : s.size ≤ 140737488355328) (hl : l.length ≤ 4398046511104)
    (h : l ≠ [] → ∃ b' o', la = some ⟨b', o', none⟩ ∧ InPs w b' o' l) : InP (w.alloc (.cells #[.int .i64 k, .int .i64 n, .string s, .slice la l.length lc] 24)) w.heap.size 0 (.mk k n s l) := by
  refine InP.arg hs hl (cells_new w _ _ _ _ _) fun hn => ?_
  obtain ⟨b', o', e, hin⟩ := h hn
  exact ⟨b', o', e, InPs.below (alloc_below w _) _ _ _ hin⟩
def mayP (p : PT) : Bool := (meas p 65536 0).2
def sizeP (p : PT) : Int := if mayP p then (meas p 65536 0).1 else 0
theorem drewN_below (w : World) (n : Nat) : Below w.heap.size w (w.drewN n) := ⟨rfl, rfl, rfl, Nat.le_refl _, fun _ _ => rfl⟩
def RetB (w : World) (v : Value) (e : Ending) (w' : World) : Prop := e = .returned v ∧ Below w.heap.size w w'
set_option maxHeartbeats 1000000 in
theorem may_any (p : PT) (w : World) (v : Value) (h : ArgP w p v) : Calls Tryd.prog 15 #[v] w (RetB w (.bool (mayP p))) := by
  cases p with
  | mk k n s l =>
    obtain ⟨hs, hl, la, lc, rfl, hin⟩ := h
    have HM := Lib.hid (measure_any (.mk k n s l) (w.alloc (.cells #[.int .i64 k, .int .i64 n, .string s, .slice la l.length lc] 24)) w.heap.size 0 65536 0 (boxed hs hl hin) (by omega) (by omega) (by omega))
    have HR : Hid (mayP (.mk k n s l) = (meas (.mk k n s l) 65536 0).2) := Lib.hid rfl
    generalize meas (.mk k n s l) 65536 0 = r at HM HR
    rw [HR.out]
    clear HR hin
    go_enter Tryd.func15, Tryd.ntmps15
    go_wp2_with fail
    refine HM.out.mono ?_
    rintro e w' ⟨rfl, m, rfl⟩
    go_wp2_with fail
    go_ret
    exact ⟨rfl, (alloc_below w _).trans ((drewN_below _ _).mono (by simp))⟩
set_option maxHeartbeats 1000000 in
theorem size_any (p : PT) (w : World) (v : Value) (h : ArgP w p v) : Calls Tryd.prog 16 #[v] w (RetB w (.int .i64 (sizeP p))) := by
  cases p with
  | mk k n s l =>
    obtain ⟨hs, hl, la, lc, rfl, hin⟩ := h
    have HM := Lib.hid (measure_any (.mk k n s l) (w.alloc (.cells #[.int .i64 k, .int .i64 n, .string s, .slice la l.length lc] 24)) w.heap.size 0 65536 0 (boxed hs hl hin) (by omega) (by omega) (by omega))
    have HR : Hid (sizeP (.mk k n s l) = if (meas (.mk k n s l) 65536 0).2 then (meas (.mk k n s l) 65536 0).1 else 0) := Lib.hid rfl
    generalize meas (.mk k n s l) 65536 0 = r at HM HR
    rw [HR.out]
    clear HR hin
    obtain ⟨x, ok⟩ := r
    cases ok
    · go_enter Tryd.func16, Tryd.ntmps16
      go_wp2_with fail
      refine HM.out.mono ?_
      rintro e w' ⟨rfl, m, rfl⟩
      go_wp2_with fail
      go_ret
      exact ⟨rfl, (alloc_below w _).trans ((drewN_below _ _).mono (by simp))⟩
    · go_enter Tryd.func16, Tryd.ntmps16
      go_wp2_with fail
      refine HM.out.mono ?_
      rintro e w' ⟨rfl, m, rfl⟩
      go_wp2_with fail
      go_ret
      exact ⟨rfl, (alloc_below w _).trans ((drewN_below _ _).mono (by simp))⟩
end

section
open Go.RowKit
set_option maxRecDepth 100000
def sameP (p q : PT) : Bool := mayP p && (mayP q && (cmpV (valOf p) (valOf q) == 0))
def compP (p q : PT) : Int := if mayP p then (if mayP q then cmpV (valOf p) (valOf q) else -1) else if mayP q then 1 else 0
theorem arg_box {w w' : World} {k n : Int} {s : ByteArray} {l : List PT} {la : Option Addr} {lc : Nat} (h : ArgP w (.mk k n s l) (.agg #[.int .i64 k, .int .i64 n, .string s, .slice la l.length lc])) {b : Nat}
    (hb : Below w.heap.size w w') (hc : CellsP w' b 0 k n s la l.length lc) : InP w' b 0 (.mk k n s l) := by
  obtain ⟨hs, hl, la', lc', e, hin⟩ := h
  simp only [Value.agg.injEq, Array.mk.injEq, List.cons.injEq, Value.slice.injEq, and_true, true_and] at e
  obtain ⟨rfl, _, rfl⟩ := e
  refine InP.arg hs hl hc fun hn => ?_
  obtain ⟨b', o', e, hin⟩ := hin hn
  exact ⟨b', o', e, InPs.below hb _ _ _ hin⟩
theorem CellsP.later {w w' : World} (hb : Below w.heap.size w w') {b o : Nat} {k n : Int} {s : ByteArray} {la : Option Addr} {ln lc : Nat} (h : CellsP w b o k n s la ln lc) : CellsP w' b o k n s la ln lc := h.below hb
theorem arg_in {w W w' : World} {p : PT} {v : Value} (h : ArgP w p v) (hB0 : Below w.heap.size w W) (hw : Below W.heap.size W w') : ArgP w' p v := h.below (hB0.trans (hw.mono hB0.size))
theorem cell_step {w w' : World} {b o : Nat} {v : Value} (h : w.cell? ⟨b, o, none⟩ = some v) (hb : Below w.heap.size w w') : w'.cell? ⟨b, o, none⟩ = some v := by
  rw [hb.cell (p := ⟨b, o, none⟩) (cell_lt h)]; exact h
theorem below_step {W w w' : World} (h : Below W.heap.size W w) (hb : Below w.heap.size w w') : Below W.heap.size W w' := h.trans (hb.mono h.size)
theorem step9 {W w w' : World} {b b' : Nat} {v0 v1 v2 v3 u0 u1 u2 u3 : Value} (h : w.cell? ⟨b, 0, none⟩ = some v0 ∧ w.cell? ⟨b, 1, none⟩ = some v1 ∧ w.cell? ⟨b, 2, none⟩ = some v2 ∧ w.cell? ⟨b, 3, none⟩ = some v3 ∧ w.cell? ⟨b', 0, none⟩ = some u0 ∧ w.cell? ⟨b', 1, none⟩ = some u1 ∧ w.cell? ⟨b', 2, none⟩ = some u2 ∧ w.cell? ⟨b', 3, none⟩ = some u3 ∧ Below W.heap.size W w) (hb : Below w.heap.size w w') :
    w'.cell? ⟨b, 0, none⟩ = some v0 ∧ w'.cell? ⟨b, 1, none⟩ = some v1 ∧ w'.cell? ⟨b, 2, none⟩ = some v2 ∧ w'.cell? ⟨b, 3, none⟩ = some v3 ∧ w'.cell? ⟨b', 0, none⟩ = some u0 ∧ w'.cell? ⟨b', 1, none⟩ = some u1 ∧ w'.cell? ⟨b', 2, none⟩ = some u2 ∧ w'.cell? ⟨b', 3, none⟩ = some u3 ∧ Below W.heap.size W w' := by
  obtain ⟨h0, h1, h2, h3, h4, h5, h6, h7, h8⟩ := h
  exact ⟨cell_step h0 hb, cell_step h1 hb, cell_step h2 hb, cell_step h3 hb, cell_step h4 hb, cell_step h5 hb, cell_step h6 hb, cell_step h7 hb, below_step h8 hb⟩
theorem and9 {a1 a2 a3 a4 a5 a6 a7 a8 b : Prop} (h : a1 ∧ a2 ∧ a3 ∧ a4 ∧ a5 ∧ a6 ∧ a7 ∧ a8 ∧ b) : b := h.2.2.2.2.2.2.2.2
theorem bcell {W w1 : World} (hb : Below W.heap.size W w1) : (∀ b o, b < W.heap.size → w1.cell? ⟨b, o, none⟩ = W.cell? ⟨b, o, none⟩) ∧ (∀ b o, b < W.heap.size → w1.frozen? ⟨b, o, none⟩ = W.frozen? ⟨b, o, none⟩) :=
  ⟨fun b o h => hb.cell (p := ⟨b, o, none⟩) h, fun b o h => hb.frozen (p := ⟨b, o, none⟩) h⟩
set_option maxHeartbeats 2000000 in
theorem compare_walk (p q : PT) (w : World) (v u : Value) (hv : ArgP w p v) (hu : ArgP w q u) : Calls Tryd.prog 14 #[v, u] w (RetB w (.int .i64 (compP p q))) := by
  cases p with
  | mk k n s l =>
  cases q with
  | mk k' n' s' l' =>
    have hv2 := hv
    have hu2 := hu
    obtain ⟨_, _, la, lc, rfl, _⟩ := hv2
    obtain ⟨_, _, la', lc', rfl, _⟩ := hu2
    have HV := Lib.hid hv
    have HU := Lib.hid hu
    clear hv hu
    go_enter Tryd.func14, Tryd.ntmps14
    go_wp2_with fail
    have hc0 := cells_new w (.int .i64 k) (.int .i64 n) (.string s) (.slice la l.length lc) 24
    have hd0 := cells_new (w.alloc (.cells #[.int .i64 k, .int .i64 n, .string s, .slice la l.length lc] 24)) (.int .i64 k') (.int .i64 n') (.string s') (.slice la' l'.length lc') 24
    have hB0 : Below w.heap.size w ((w.alloc (.cells #[.int .i64 k, .int .i64 n, .string s, .slice la l.length lc] 24)).alloc (.cells #[.int .i64 k', .int .i64 n', .string s', .slice la' l'.length lc'] 24)) := (alloc_below w _).alloc (by simp) _
    have hs0 : ((w.alloc (.cells #[.int .i64 k, .int .i64 n, .string s, .slice la l.length lc] 24)).alloc (.cells #[.int .i64 k', .int .i64 n', .string s', .slice la' l'.length lc'] 24)).heap.size = w.heap.size + 2 := by simp
    have hc1 : CellsP ((w.alloc (.cells #[.int .i64 k, .int .i64 n, .string s, .slice la l.length lc] 24)).alloc (.cells #[.int .i64 k', .int .i64 n', .string s', .slice la' l'.length lc'] 24)) w.heap.size 0 k n s la l.length lc := CellsP.below (alloc_below _ _) hc0
    clear hc0
    rw [show (w.alloc (.cells #[.int .i64 k, .int .i64 n, .string s, .slice la l.length lc] 24)).heap.size = w.heap.size + 1 from by simp] at hd0
    generalize ((w.alloc (.cells #[.int .i64 k, .int .i64 n, .string s, .slice la l.length lc] 24)).alloc (.cells #[.int .i64 k', .int .i64 n', .string s', .slice la' l'.length lc'] 24)) = W at hc1 hd0 hB0 hs0 ⊢
    obtain ⟨c0, c1, c2, c3⟩ := hc1
    obtain ⟨d0, d1, d2, d3⟩ := hd0
    obtain ⟨N, hN⟩ : ∃ N, N = w.heap.size := ⟨_, rfl⟩
    simp only [← hN, Nat.zero_add] at c0 c1 c2 c3 d0 d1 d2 d3 hs0 ⊢
    have HN := Lib.hid hN
    have HS := Lib.hid hs0
    clear hN hs0
    have hBd : Below W.heap.size W W.drew := (Below.refl _ _).drew
    go_region_held3 (fun w' => w'.cell? ⟨N, 0, none⟩ = some (.int .i64 k) ∧ w'.cell? ⟨N, 1, none⟩ = some (.int .i64 n) ∧ w'.cell? ⟨N, 2, none⟩ = some (.string s) ∧ w'.cell? ⟨N, 3, none⟩ = some (.slice la l.length lc) ∧
        w'.cell? ⟨N + 1, 0, none⟩ = some (.int .i64 k') ∧ w'.cell? ⟨N + 1, 1, none⟩ = some (.int .i64 n') ∧ w'.cell? ⟨N + 1, 2, none⟩ = some (.string s') ∧ w'.cell? ⟨N + 1, 3, none⟩ = some (.slice la' l'.length lc') ∧ Below W.heap.size W w')
      (first | exact ⟨c0, c1, c2, c3, d0, d1, d2, d3, (Below.refl _ _).drew⟩ | exact step9 (w := W.drew) ⟨c0, c1, c2, c3, d0, d1, d2, d3, hBd⟩ hb | (refine step9 ?_ hb; assumption) | assumption)
      (first
      | (go_at_call 15; ((with_reducible refine (may_any _ _ _ (arg_in HV.out hB0 ?_)).mono ?_); (first | assumption | (apply and9; assumption)); rintro e w1 ⟨rfl, hb⟩))
      | (go_at_call 15; ((with_reducible refine (may_any _ _ _ (arg_in HU.out hB0 ?_)).mono ?_); (first | assumption | (apply and9; assumption)); rintro e w1 ⟨rfl, hb⟩)))
    rename_i hS
    obtain ⟨e0, e1, e2, e3, f0, f1, f2, f3, hW1⟩ := hS
    have hBw := hB0.trans (hW1.mono hB0.size)
    have H1 := Lib.hid (arg_box HV.out hBw ⟨e0, e1, e2, e3⟩)
    have H2 := Lib.hid (arg_box HU.out hBw ⟨f0, f1, f2, f3⟩)
    have HE : Hid (compP (.mk k n s l) (.mk k' n' s' l') = if mayP (.mk k n s l) then (if mayP (.mk k' n' s' l') then cmpV (valOf (.mk k n s l)) (valOf (.mk k' n' s' l')) else -1) else if mayP (.mk k' n' s' l') then 1 else 0) := Lib.hid rfl
    rename_i w1 _
    clear hb
    clear e0 e1 e2 e3 f0 f1 f2 f3 c0 c1 c2 c3 d0 d1 d2 d3 hBd
    cases hp : mayP (.mk k n s l) <;> cases hq : mayP (.mk k' n' s' l')
    · rw [hp, hq] at HE
      have HP := Lib.hid hp
      have HQ := Lib.hid hq
      clear hp hq
      go_wp2_with fail
      go_ret
      exact ⟨ret_int HE.out.symm, hBw⟩
    · rw [hp, hq] at HE
      clear hp hq
      go_wp2_with fail
      go_ret
      exact ⟨ret_int HE.out.symm, hBw⟩
    · rw [hp, hq] at HE
      clear hp hq
      go_wp2_with fail
      go_ret
      exact ⟨ret_int HE.out.symm, hBw⟩
    · rw [hp, hq] at HE
      clear hp hq
      go_wp2_with fail
      refine (value_any _ _ _ _ H1.out).mono ?_
      rintro e w2 ⟨x, bs, rfl, hx, hnd, hge, hb2⟩
      have HX := Lib.hid hx
      clear hx hnd hge
      go_wp2_with fail
      refine (value_any _ _ _ _ (InP.below hb2 _ _ _ H2.out)).mono ?_
      rintro e w3 ⟨y, cs, rfl, hy, hnd, hge, hb3⟩
      have HY := Lib.hid hy
      clear hy hnd hge
      go_wp2_with fail
      refine (compare_any _ _ _ _ _ _ _ (RepV.keep _ _ _ (fun g hg => hb3.block g (RepV.lt _ _ _ HX.out g hg)) HX.out) HY.out).mono ?_
      rintro e w4 ⟨rfl, m, rfl⟩
      go_wp2_with fail
      go_ret
      exact ⟨ret_int HE.out.symm, ((hBw.trans (hb2.mono hBw.size)).trans (hb3.mono (Nat.le_trans hBw.size hb2.size))).trans ⟨rfl, rfl, rfl, Nat.le_refl _, fun _ _ => rfl⟩⟩
end

section
open Go.RowKit
set_option maxRecDepth 100000
set_option maxHeartbeats 2000000 in
theorem same_any (p q : PT) (w : World) (v u : Value) (hv : ArgP w p v) (hu : ArgP w q u) : Calls Tryd.prog 12 #[v, u] w (RetB w (.bool (sameP p q))) := by
  cases p with
  | mk k n s l =>
  cases q with
  | mk k' n' s' l' =>
    have hv2 := hv
    have hu2 := hu
    obtain ⟨_, _, la, lc, rfl, _⟩ := hv2
    obtain ⟨_, _, la', lc', rfl, _⟩ := hu2
    have HV := Lib.hid hv
    have HU := Lib.hid hu
    clear hv hu
    have hc0 := cells_new w (.int .i64 k) (.int .i64 n) (.string s) (.slice la l.length lc) 24
    have hd0 := cells_new (w.alloc (.cells #[.int .i64 k, .int .i64 n, .string s, .slice la l.length lc] 24)) (.int .i64 k') (.int .i64 n') (.string s') (.slice la' l'.length lc') 24
    have hB0 : Below w.heap.size w ((w.alloc (.cells #[.int .i64 k, .int .i64 n, .string s, .slice la l.length lc] 24)).alloc (.cells #[.int .i64 k', .int .i64 n', .string s', .slice la' l'.length lc'] 24)) := (alloc_below w _).alloc (by simp) _
    have hs0 : ((w.alloc (.cells #[.int .i64 k, .int .i64 n, .string s, .slice la l.length lc] 24)).alloc (.cells #[.int .i64 k', .int .i64 n', .string s', .slice la' l'.length lc'] 24)).heap.size = w.heap.size + 2 := by simp
    have hc1 : CellsP ((w.alloc (.cells #[.int .i64 k, .int .i64 n, .string s, .slice la l.length lc] 24)).alloc (.cells #[.int .i64 k', .int .i64 n', .string s', .slice la' l'.length lc'] 24)) w.heap.size 0 k n s la l.length lc := CellsP.below (alloc_below _ _) hc0
    clear hc0
    rw [show (w.alloc (.cells #[.int .i64 k, .int .i64 n, .string s, .slice la l.length lc] 24)).heap.size = w.heap.size + 1 from by simp] at hd0
    have HC := Lib.hid hc1
    have HD := Lib.hid hd0
    have HB := Lib.hid hB0
    clear hc1 hd0 hB0 hs0
    have HE : Hid (sameP (.mk k n s l) (.mk k' n' s' l') = (mayP (.mk k n s l) && (mayP (.mk k' n' s' l') && (cmpV (valOf (.mk k n s l)) (valOf (.mk k' n' s' l')) == 0)))) := Lib.hid rfl
    go_enter Tryd.func12, Tryd.ntmps12
    go_wp2_with fail
    generalize ((w.alloc (.cells #[.int .i64 k, .int .i64 n, .string s, .slice la l.length lc] 24)).alloc (.cells #[.int .i64 k', .int .i64 n', .string s', .slice la' l'.length lc'] 24)) = W at HC HD HB ⊢
    refine (may_any _ _ _ (HV.out.below HB.out)).mono ?_
    rintro e w1 ⟨rfl, hb1⟩
    have HC1 := Lib.hid (HC.out.below hb1)
    have HD1 := Lib.hid (CellsP.below (la := la') hb1 HD.out)
    have hB1 := HB.out.trans (hb1.mono HB.out.size)
    cases hp : mayP (.mk k n s l)
    · rw [hp] at HE
      clear hp
      go_wp2_with fail
      go_ret
      exact ⟨by rw [HE.out]; rfl, hB1⟩
    · rw [hp] at HE
      clear hp
      have hd := HD1.out
      obtain ⟨d0, d1, d2, d3⟩ := hd
      go_wp2_with fail
      refine (may_any _ _ _ (HU.out.below hB1)).mono ?_
      rintro e w2 ⟨rfl, hb2⟩
      have hB2 := hB1.trans (hb2.mono hB1.size)
      have H1 := Lib.hid (arg_box HV.out hB2 (HC1.out.below hb2))
      have H2 := Lib.hid (arg_box HU.out hB2 (CellsP.below (la := la') hb2 HD1.out))
      clear d0 d1 d2 d3
      cases hq : mayP (.mk k' n' s' l')
      · rw [hq] at HE
        clear hq
        go_wp2_with fail
        go_ret
        exact ⟨by rw [HE.out]; rfl, hB2⟩
      · rw [hq] at HE
        clear hq
        go_wp2_with fail
        refine (value_any _ _ _ _ H1.out).mono ?_
        rintro e w3 ⟨x, bs, rfl, hx, hnd, hge, hb3⟩
        have HX := Lib.hid hx
        clear hx hnd hge
        go_wp2_with fail
        refine (value_any _ _ _ _ (InP.below hb3 _ _ _ H2.out)).mono ?_
        rintro e w4 ⟨y, cs, rfl, hy, hnd, hge, hb4⟩
        have HY := Lib.hid hy
        clear hy hnd hge
        go_wp2_with fail
        refine (compare_any _ _ _ _ _ _ _ (RepV.keep _ _ _ (fun g hg => hb4.block g (RepV.lt _ _ _ HX.out g hg)) HX.out) HY.out).mono ?_
        rintro e w5 ⟨rfl, m, rfl⟩
        go_wp2_with fail
        go_ret
        exact ⟨by rw [HE.out]; rfl, ((hB2.trans (hb3.mono hB2.size)).trans (hb4.mono (Nat.le_trans hB2.size hb3.size))).trans ⟨rfl, rfl, rfl, Nat.le_refl _, fun _ _ => rfl⟩⟩
end

section
open Go.RowKit
set_option maxRecDepth 100000
def NewE (w : World) (t : VT) (c : Int) (e : Ending) (w' : World) : Prop := ∃ v bs, e = .returned (.tuple #[v, .int .i64 c]) ∧ RepV w' t v bs ∧ bs.Nodup ∧ (∀ g ∈ bs, w.heap.size ≤ g) ∧ Below w.heap.size w w'
def NilE (w : World) (c : Int) (e : Ending) (w' : World) : Prop := e = .returned (.tuple #[.nilIface, .int .i64 c]) ∧ Below w.heap.size w w'
set_option maxHeartbeats 2000000 in
theorem of_no (p : PT) (w : World) (v : Value) (hv : ArgP w p v) (hm : mayP p = false) : Calls Tryd.prog 21 #[v] w (NilE w 1) := by
  cases p with
  | mk k n s l =>
    have hv2 := hv
    obtain ⟨_, _, la, lc, rfl, _⟩ := hv2
    have HV := Lib.hid hv
    have HM := Lib.hid hm
    clear hv hm
    go_enter Tryd.func21, Tryd.ntmps21
    go_wp2_with fail
    refine (may_any _ _ _ (HV.out.below (alloc_below w _))).mono ?_
    rintro e w1 ⟨rfl, hb1⟩
    rw [HM.out]
    go_wp2_with fail
    go_ret2
    exact ⟨rfl, (alloc_below w _).trans (hb1.mono (by simp))⟩
set_option maxHeartbeats 2000000 in
theorem of_yes (p : PT) (w : World) (v : Value) (hv : ArgP w p v) (hm : mayP p = true) : Calls Tryd.prog 21 #[v] w (NewE w (valOf p) 0) := by
  cases p with
  | mk k n s l =>
    have hv2 := hv
    obtain ⟨_, _, la, lc, rfl, _⟩ := hv2
    have HV := Lib.hid hv
    have HM := Lib.hid hm
    have hc0 : CellsP (w.alloc (.cells #[.int .i64 k, .int .i64 n, .string s, .slice la l.length lc] 24)) w.heap.size 0 k n s la l.length lc := cells_new w _ _ _ _ _
    have HC := Lib.hid hc0
    clear hv hm hc0
    go_enter Tryd.func21, Tryd.ntmps21
    go_wp2_with fail
    refine (may_any _ _ _ (HV.out.below (alloc_below w _))).mono ?_
    rintro e w1 ⟨rfl, hb1⟩
    have hB1 := (alloc_below w _).trans (hb1.mono (by simp))
    have H1 := Lib.hid (arg_box HV.out hB1 (HC.out.below hb1))
    rw [HM.out]
    go_wp2_with fail
    refine (value_any _ _ _ _ H1.out).mono ?_
    rintro e w2 ⟨x, bs, rfl, hx, hnd, hge, hb2⟩
    have HX := Lib.hid hx
    have HN := Lib.hid hnd
    have HG := Lib.hid hge
    clear hx hnd hge
    go_wp2_with fail
    go_ret2
    exact ⟨_, bs, rfl, HX.out, HN.out, fun g hg => Nat.le_trans hB1.size (HG.out g hg), hB1.trans (hb2.mono hB1.size)⟩
end

section
open Go.RowKit
set_option maxRecDepth 100000
theorem step13 {W w w' : World} {b b' b'' : Nat} {v0 v1 v2 v3 u0 u1 u2 u3 t0 t1 t2 t3 : Value} (h : w.cell? ⟨b, 0, none⟩ = some v0 ∧ w.cell? ⟨b, 1, none⟩ = some v1 ∧ w.cell? ⟨b, 2, none⟩ = some v2 ∧ w.cell? ⟨b, 3, none⟩ = some v3 ∧ w.cell? ⟨b', 0, none⟩ = some u0 ∧ w.cell? ⟨b', 1, none⟩ = some u1 ∧ w.cell? ⟨b', 2, none⟩ = some u2 ∧ w.cell? ⟨b', 3, none⟩ = some u3 ∧ w.cell? ⟨b'', 0, none⟩ = some t0 ∧ w.cell? ⟨b'', 1, none⟩ = some t1 ∧ w.cell? ⟨b'', 2, none⟩ = some t2 ∧ w.cell? ⟨b'', 3, none⟩ = some t3 ∧ Below W.heap.size W w) (hb : Below w.heap.size w w') :
    w'.cell? ⟨b, 0, none⟩ = some v0 ∧ w'.cell? ⟨b, 1, none⟩ = some v1 ∧ w'.cell? ⟨b, 2, none⟩ = some v2 ∧ w'.cell? ⟨b, 3, none⟩ = some v3 ∧ w'.cell? ⟨b', 0, none⟩ = some u0 ∧ w'.cell? ⟨b', 1, none⟩ = some u1 ∧ w'.cell? ⟨b', 2, none⟩ = some u2 ∧ w'.cell? ⟨b', 3, none⟩ = some u3 ∧ w'.cell? ⟨b'', 0, none⟩ = some t0 ∧ w'.cell? ⟨b'', 1, none⟩ = some t1 ∧ w'.cell? ⟨b'', 2, none⟩ = some t2 ∧ w'.cell? ⟨b'', 3, none⟩ = some t3 ∧ Below W.heap.size W w' := by
  obtain ⟨h0, h1, h2, h3, h4, h5, h6, h7, h8, h9, h10, h11, h12⟩ := h
  exact ⟨cell_step h0 hb, cell_step h1 hb, cell_step h2 hb, cell_step h3 hb, cell_step h4 hb, cell_step h5 hb, cell_step h6 hb, cell_step h7 hb, cell_step h8 hb, cell_step h9 hb, cell_step h10 hb, cell_step h11 hb, below_step h12 hb⟩
theorem and13 {a1 a2 a3 a4 a5 a6 a7 a8 a9 a10 a11 a12 b : Prop} (h : a1 ∧ a2 ∧ a3 ∧ a4 ∧ a5 ∧ a6 ∧ a7 ∧ a8 ∧ a9 ∧ a10 ∧ a11 ∧ a12 ∧ b) : b := h.2.2.2.2.2.2.2.2.2.2.2.2
def ThreeBoxes (w W : World) (k0 n0 : Int) (s0 : ByteArray) (a0 : Option Addr) (l0 c0 : Nat) (k1 n1 : Int) (s1 : ByteArray) (a1 : Option Addr) (l1 c1 : Nat) (k2 n2 : Int) (s2 : ByteArray) (a2 : Option Addr) (l2 c2 : Nat) : Prop :=
  CellsP W w.heap.size 0 k0 n0 s0 a0 l0 c0 ∧ CellsP W (w.heap.size + 1) 0 k1 n1 s1 a1 l1 c1 ∧ CellsP W (w.heap.size + 2) 0 k2 n2 s2 a2 l2 c2 ∧ Below w.heap.size w W
theorem three_boxes (w : World) (k0 n0 : Int) (s0 : ByteArray) (a0 : Option Addr) (l0 c0 : Nat) (k1 n1 : Int) (s1 : ByteArray) (a1 : Option Addr) (l1 c1 : Nat) (k2 n2 : Int) (s2 : ByteArray) (a2 : Option Addr) (l2 c2 : Nat) :
    ThreeBoxes w (((w.alloc (.cells #[.int .i64 k0, .int .i64 n0, .string s0, .slice a0 l0 c0] 24)).alloc (.cells #[.int .i64 k1, .int .i64 n1, .string s1, .slice a1 l1 c1] 24)).alloc (.cells #[.int .i64 k2, .int .i64 n2, .string s2, .slice a2 l2 c2] 24)) k0 n0 s0 a0 l0 c0 k1 n1 s1 a1 l1 c1 k2 n2 s2 a2 l2 c2 := by
  have h0 := cells_new w (.int .i64 k0) (.int .i64 n0) (.string s0) (.slice a0 l0 c0) 24
  have h1 := cells_new (w.alloc (.cells #[.int .i64 k0, .int .i64 n0, .string s0, .slice a0 l0 c0] 24)) (.int .i64 k1) (.int .i64 n1) (.string s1) (.slice a1 l1 c1) 24
  have h2 := cells_new ((w.alloc (.cells #[.int .i64 k0, .int .i64 n0, .string s0, .slice a0 l0 c0] 24)).alloc (.cells #[.int .i64 k1, .int .i64 n1, .string s1, .slice a1 l1 c1] 24)) (.int .i64 k2) (.int .i64 n2) (.string s2) (.slice a2 l2 c2) 24
  have e1 : (w.alloc (.cells #[.int .i64 k0, .int .i64 n0, .string s0, .slice a0 l0 c0] 24)).heap.size = w.heap.size + 1 := by simp
  have e2 : ((w.alloc (.cells #[.int .i64 k0, .int .i64 n0, .string s0, .slice a0 l0 c0] 24)).alloc (.cells #[.int .i64 k1, .int .i64 n1, .string s1, .slice a1 l1 c1] 24)).heap.size = w.heap.size + 2 := by simp
  rw [e1] at h1
  rw [e2] at h2
  exact ⟨CellsP.below (alloc_below _ _) (CellsP.below (alloc_below _ _) h0), CellsP.below (alloc_below _ _) h1, h2, ((alloc_below w _).alloc (by rw [e1]; omega) _).alloc (by rw [e2]; omega) _⟩
theorem ret_true {b : Bool} (h : b = true) : Ending.returned (.bool b) = .returned (.bool true) := by rw [h]
theorem ret_tf {z y : Int} (hz : z ≠ 0) (hy : y ≠ 0) : Ending.returned (.bool (decide (0 < y) || (z == 0) == (y == 0))) = .returned (.bool true) := ret_true (by
  have h1 : (z == 0) = false := by simpa using hz
  have h2 : (y == 0) = false := by simpa using hy
  rw [h1, h2]; simp)
theorem ret_tz {z : Int} (hz : z ≠ 0) (a b : Bool) : Ending.returned (.bool (a || b || !z == 0)) = .returned (.bool true) := ret_true (by
  have h1 : (z == 0) = false := by simpa using hz
  rw [h1]; simp)
set_option maxHeartbeats 4000000 in
theorem law_order (p0 p1 p2 : PT) (w : World) (v0 v1 v2 : Value) (hv0 : ArgP w p0 v0) (hv1 : ArgP w p1 v1) (hv2 : ArgP w p2 v2)
    (F1 : ∀ p q, compP q p = - compP p q) (F2 : ∀ p q, -1 ≤ compP p q ∧ compP p q ≤ 1) (F3 : ∀ p q, compP p q = 0 ↔ (sameP p q = true ∨ (mayP p = false ∧ mayP q = false)))
    (F4 : ∀ p q r, compP p q ≤ 0 → compP q r ≤ 0 → compP p r ≤ 0 ∧ (compP p r = 0 ↔ compP p q = 0 ∧ compP q r = 0))
    (hbeg : ∀ W, Below w.heap.size w W → Calls Tryd.prog 8 #[] W (RetB W (.bool true))) : Calls Tryd.prog 4 #[v0, v1, v2] w (RetB w (.bool true)) := by
  cases p0 with
  | mk k0 n0 s0 l0 =>
  cases p1 with
  | mk k1 n1 s1 l1 =>
  cases p2 with
  | mk k2 n2 s2 l2 =>
    have g0 := hv0
    have g1 := hv1
    have g2 := hv2
    obtain ⟨_, _, a0, c0, rfl, _⟩ := g0
    obtain ⟨_, _, a1, c1, rfl, _⟩ := g1
    obtain ⟨_, _, a2, c2, rfl, _⟩ := g2
    have HV0 := Lib.hid hv0
    have HV1 := Lib.hid hv1
    have HV2 := Lib.hid hv2
    have HBG := Lib.hid hbeg
    have HF1 := Lib.hid F1
    have HF2 := Lib.hid F2
    have HF3 := Lib.hid F3
    have HF4 := Lib.hid F4
    clear F1 F2 F3 F4
    clear hv0 hv1 hv2 hbeg
    have HT := Lib.hid (three_boxes w k0 n0 s0 a0 l0.length c0 k1 n1 s1 a1 l1.length c1 k2 n2 s2 a2 l2.length c2)
    go_enter Tryd.func4, Tryd.ntmps4
    go_wp2_with fail
    generalize (((w.alloc (.cells #[.int .i64 k0, .int .i64 n0, .string s0, .slice a0 l0.length c0] 24)).alloc (.cells #[.int .i64 k1, .int .i64 n1, .string s1, .slice a1 l1.length c1] 24)).alloc (.cells #[.int .i64 k2, .int .i64 n2, .string s2, .slice a2 l2.length c2] 24)) = W0 at HT ⊢
    refine (HBG.out W0 HT.out.2.2.2).mono ?_
    rintro e W ⟨rfl, hb0⟩
    go_wp2_with fail
    obtain ⟨N, hN⟩ : ∃ N, N = w.heap.size := ⟨_, rfl⟩
    have HC : ThreeBoxes w W k0 n0 s0 a0 l0.length c0 k1 n1 s1 a1 l1.length c1 k2 n2 s2 a2 l2.length c2 :=
      ⟨CellsP.below hb0 HT.out.1, CellsP.below hb0 HT.out.2.1, CellsP.below hb0 HT.out.2.2.1, HT.out.2.2.2.trans (hb0.mono HT.out.2.2.2.size)⟩
    unfold ThreeBoxes CellsP at HC
    obtain ⟨⟨f0, f1, f2, f3⟩, ⟨d0, d1, d2, d3⟩, ⟨e0, e1, e2, e3⟩, hB0⟩ := HC
    simp only [← hN, Nat.zero_add] at f0 f1 f2 f3 d0 d1 d2 d3 e0 e1 e2 e3 ⊢
    have HN := Lib.hid hN
    clear hN hb0 HT
    have hBd : Below W.heap.size W W.drew := (Below.refl _ _).drew
    go_region_held3 (fun w' => w'.cell? ⟨N, 0, none⟩ = some (.int .i64 k0) ∧ w'.cell? ⟨N, 1, none⟩ = some (.int .i64 n0) ∧ w'.cell? ⟨N, 2, none⟩ = some (.string s0) ∧ w'.cell? ⟨N, 3, none⟩ = some (.slice a0 l0.length c0) ∧ w'.cell? ⟨N + 1, 0, none⟩ = some (.int .i64 k1) ∧ w'.cell? ⟨N + 1, 1, none⟩ = some (.int .i64 n1) ∧ w'.cell? ⟨N + 1, 2, none⟩ = some (.string s1) ∧ w'.cell? ⟨N + 1, 3, none⟩ = some (.slice a1 l1.length c1) ∧ w'.cell? ⟨N + 2, 0, none⟩ = some (.int .i64 k2) ∧ w'.cell? ⟨N + 2, 1, none⟩ = some (.int .i64 n2) ∧ w'.cell? ⟨N + 2, 2, none⟩ = some (.string s2) ∧ w'.cell? ⟨N + 2, 3, none⟩ = some (.slice a2 l2.length c2) ∧ Below W.heap.size W w')
      (first | exact ⟨f0, f1, f2, f3, d0, d1, d2, d3, e0, e1, e2, e3, hBd⟩ | exact step13 (w := W.drew) ⟨f0, f1, f2, f3, d0, d1, d2, d3, e0, e1, e2, e3, hBd⟩ hb | (refine step13 ?_ hb; assumption) | assumption)
      (first
      | (go_at_call 14; ((with_reducible refine (compare_walk _ _ _ _ _ (arg_in HV0.out hB0 ?_) (arg_in HV1.out hB0 ?_)).mono ?_); (first | assumption | (apply and13; assumption)); (first | assumption | (apply and13; assumption)); rintro e w1 ⟨rfl, hb⟩))
      | (go_at_call 14; ((with_reducible refine (compare_walk _ _ _ _ _ (arg_in HV0.out hB0 ?_) (arg_in HV2.out hB0 ?_)).mono ?_); (first | assumption | (apply and13; assumption)); (first | assumption | (apply and13; assumption)); rintro e w1 ⟨rfl, hb⟩))
      | (go_at_call 14; ((with_reducible refine (compare_walk _ _ _ _ _ (arg_in HV1.out hB0 ?_) (arg_in HV0.out hB0 ?_)).mono ?_); (first | assumption | (apply and13; assumption)); (first | assumption | (apply and13; assumption)); rintro e w1 ⟨rfl, hb⟩))
      | (go_at_call 14; ((with_reducible refine (compare_walk _ _ _ _ _ (arg_in HV1.out hB0 ?_) (arg_in HV2.out hB0 ?_)).mono ?_); (first | assumption | (apply and13; assumption)); (first | assumption | (apply and13; assumption)); rintro e w1 ⟨rfl, hb⟩))
      | (go_at_call 14; ((with_reducible refine (compare_walk _ _ _ _ _ (arg_in HV2.out hB0 ?_) (arg_in HV0.out hB0 ?_)).mono ?_); (first | assumption | (apply and13; assumption)); (first | assumption | (apply and13; assumption)); rintro e w1 ⟨rfl, hb⟩))
      | (go_at_call 14; ((with_reducible refine (compare_walk _ _ _ _ _ (arg_in HV2.out hB0 ?_) (arg_in HV1.out hB0 ?_)).mono ?_); (first | assumption | (apply and13; assumption)); (first | assumption | (apply and13; assumption)); rintro e w1 ⟨rfl, hb⟩)))
    rename_i hS
    have hBS := and13 hS
    have hc := hS
    have HS1 := Lib.hid hS
    clear hS
    obtain ⟨f0, f1, f2, f3, d0, d1, d2, d3, e0, e1, e2, e3, hW1⟩ := hc
    have hBw := hB0.trans (hW1.mono hB0.size)
    have hF1 := HF1.out (.mk k0 n0 s0 l0) (.mk k1 n1 s1 l1)
    have hF2 := HF2.out (.mk k0 n0 s0 l0) (.mk k1 n1 s1 l1)
    have hF3 := HF3.out (.mk k0 n0 s0 l0) (.mk k1 n1 s1 l1)
    have hF4 := HF4.out (.mk k0 n0 s0 l0) (.mk k1 n1 s1 l1) (.mk k2 n2 s2 l2)
    have HS : Hid (sameP (.mk k0 n0 s0 l0) (.mk k1 n1 s1 l1) = sameP (.mk k0 n0 s0 l0) (.mk k1 n1 s1 l1)) := Lib.hid rfl
    generalize hx : compP (.mk k0 n0 s0 l0) (.mk k1 n1 s1 l1) = x at hF1 hF2 hF3 hF4 ⊢
    generalize hy : compP (.mk k1 n1 s1 l1) (.mk k2 n2 s2 l2) = y at hF4 ⊢
    generalize hz : compP (.mk k0 n0 s0 l0) (.mk k2 n2 s2 l2) = z at hF4 ⊢
    have H1 := Lib.hid hF1
    have H3 := Lib.hid hF3
    have H4 := Lib.hid hF4
    clear hx hy hz hF1 hF3 hF4
    obtain ⟨hlo, hhi⟩ := hF2
    go_wp2_with fail
    refine (compare_walk _ _ _ _ _ (HV1.out.below hBw) (HV0.out.below hBw)).mono ?_
    rintro e w2 ⟨rfl, hb2⟩
    rw [H1.out]
    have hS2 := step13 HS1.out hb2
    have HS2 := Lib.hid hS2
    obtain ⟨f0, f1, f2, f3, d0, d1, d2, d3, e0, e1, e2, e3, hW2⟩ := hS2
    have hBw2 := hB0.trans (hW2.mono hB0.size)
    go_wp2_with fail
    refine (same_any _ _ _ _ _ (HV0.out.below hBw2) (HV1.out.below hBw2)).mono ?_
    rintro e w3 ⟨rfl, hb3⟩
    have hS3 := step13 HS2.out hb3
    have HS3 := Lib.hid hS3
    obtain ⟨f0, f1, f2, f3, d0, d1, d2, d3, e0, e1, e2, e3, hW3⟩ := hS3
    have hBw3 := hB0.trans (hW3.mono hB0.size)
    have h3 := H3.out
    have h4 := H4.out
    have HE : ∀ b : Bool, b = true → Ending.returned (.bool b) = .returned (.bool true) := fun b h => by rw [h]
    cases hs : sameP (.mk k0 n0 s0 l0) (.mk k1 n1 s1 l1)
    · rw [hs] at h3
      clear hs
      simp only [Bool.false_eq_true, false_or] at h3
      go_wp2_with fail
      refine (may_any _ _ _ (HV0.out.below hBw3)).mono ?_
      rintro e w4 ⟨rfl, hb4⟩
      have hS4 := step13 HS3.out hb4
      have HS4 := Lib.hid hS4
      obtain ⟨f0, f1, f2, f3, d0, d1, d2, d3, e0, e1, e2, e3, hW4⟩ := hS4
      have hBw4 := hB0.trans (hW4.mono hB0.size)
      cases hm : mayP (.mk k0 n0 s0 l0)
      · rw [hm] at h3
        clear hm
        simp only [true_and] at h3
        go_wp2_with fail
        refine (may_any _ _ _ (HV1.out.below hBw4)).mono ?_
        rintro e w5 ⟨rfl, hb5⟩
        have hBw5 := hBw4.trans (hb5.mono hBw4.size)
        cases hm : mayP (.mk k1 n1 s1 l1)
        · rw [hm] at h3
          clear hm
          have hx0 : x = 0 := h3.2 rfl
          subst hx0
          clear h3 H1 H3 HS
          have h4' := h4 (by omega)
          by_cases hy : 0 < y
          · clear h4 h4'
            go_wp2_with fail
            go_ret
            exact ⟨rfl, hBw5⟩
          · have h5 := h4' (by omega)
            clear h4 h4'
            obtain ⟨h6, h7⟩ := h5
            by_cases hy0 : y = 0
            · have hz0 : z = 0 := h7.2 ⟨rfl, hy0⟩
              subst hy0
              subst hz0
              clear h7
              go_wp2_with fail
              go_ret
              exact ⟨rfl, hBw5⟩
            · have hz0 : z ≠ 0 := fun h => hy0 (h7.1 h).2
              clear h7
              have hz1 : z < 0 := by omega
              have hy1 : y < 0 := by omega
              go_wp2_with fail
              go_ret
              exact ⟨ret_tf hz0 hy0, hBw5⟩
        · rw [hm] at h3
          clear hm
          have hx0 : x ≠ 0 := fun h => by simpa using h3.1 h
          clear h3 H1 H3 HS
          by_cases hx : 0 < x
          · clear h4
            go_wp2_with fail
            go_ret
            exact ⟨rfl, hBw5⟩
          · have h4' := h4 (by omega)
            have hx1 : x < 0 := by omega
            by_cases hy : 0 < y
            · clear h4 h4'
              go_wp2_with fail
              go_ret
              exact ⟨rfl, hBw5⟩
            · have h5 := h4' (by omega)
              clear h4 h4'
              obtain ⟨h6, h7⟩ := h5
              have hz0 : z ≠ 0 := fun h => hx0 (h7.1 h).1
              clear h7
              have hz1 : z < 0 := by omega
              go_wp2_with fail
              go_ret
              exact ⟨ret_tz hz0 _ _, hBw5⟩
      · rw [hm] at h3
        clear hm
        have hx0 : x ≠ 0 := fun h => by simpa using h3.1 h
        clear h3 H1 H3 HS
        by_cases hx : 0 < x
        · clear h4
          go_wp2_with fail
          go_ret
          exact ⟨rfl, hBw4⟩
        · have h4' := h4 (by omega)
          have hx1 : x < 0 := by omega
          by_cases hy : 0 < y
          · clear h4 h4'
            go_wp2_with fail
            go_ret
            exact ⟨rfl, hBw4⟩
          · have h5 := h4' (by omega)
            clear h4 h4'
            obtain ⟨h6, h7⟩ := h5
            have hz0 : z ≠ 0 := fun h => hx0 (h7.1 h).1
            clear h7
            have hz1 : z < 0 := by omega
            go_wp2_with fail
            go_ret
            exact ⟨ret_tz hz0 _ _, hBw4⟩
    · have hx0 : x = 0 := h3.2 (.inl hs)
      subst hx0
      clear hs h3 H1 H3 HS
      have h4' := h4 (by omega)
      by_cases hy : 0 < y
      · clear h4 h4'
        go_wp2_with fail
        go_ret
        exact ⟨rfl, hBw3⟩
      · have h5 := h4' (by omega)
        clear h4 h4'
        obtain ⟨h6, h7⟩ := h5
        by_cases hy0 : y = 0
        · have hz0 : z = 0 := h7.2 ⟨rfl, hy0⟩
          subst hy0
          subst hz0
          clear h7
          go_wp2_with fail
          go_ret
          exact ⟨rfl, hBw3⟩
        · have hz0 : z ≠ 0 := fun h => hy0 (h7.1 h).2
          clear h7
          have hz1 : z < 0 := by omega
          have hy1 : y < 0 := by omega
          go_wp2_with fail
          go_ret
          exact ⟨ret_tf hz0 hy0, hBw3⟩
end

section
open Go.RowKit
theorem ordI_anti (a b : Int) : ordI b a = - ordI a b := by
  rcases Int.lt_trichotomy a b with h | h | h
  · rw [ordI_lt h, ordI_gt h]; rfl
  · rw [ordI_eq h, ordI_eq h.symm]; rfl
  · rw [ordI_lt h, ordI_gt h]
theorem ordI_bd (a b : Int) : -1 ≤ ordI a b ∧ ordI a b ≤ 1 := by unfold ordI; split <;> (try split) <;> omega
theorem ordI_zero {a b : Int} : ordI a b = 0 ↔ a = b := by
  constructor
  · intro h; unfold ordI at h; split at h <;> (try split at h) <;> omega
  · exact ordI_eq
theorem ordI_tr {a b c : Int} (h1 : ordI a b ≤ 0) (h2 : ordI b c ≤ 0) : ordI a c ≤ 0 ∧ (ordI a c = 0 ↔ ordI a b = 0 ∧ ordI b c = 0) := by
  have e1 : a ≤ b := by unfold ordI at h1; split at h1 <;> (try split at h1) <;> omega
  have e2 : b ≤ c := by unfold ordI at h2; split at h2 <;> (try split at h2) <;> omega
  rw [ordI_zero, ordI_zero, ordI_zero]
  refine ⟨?_, by omega⟩
  unfold ordI; split <;> (try split) <;> omega
/-! bytes -/
theorem less_irr : ∀ a : List UInt8, Op.bytesLess a a = false
  | [] => rfl
  | x :: r => by simp [Op.bytesLess, less_irr r]
theorem less_tri : ∀ a b : List UInt8, Op.bytesLess a b = true ∨ a = b ∨ Op.bytesLess b a = true
  | [], [] => .inr (.inl rfl)
  | [], _ :: _ => .inl rfl
  | _ :: _, [] => .inr (.inr rfl)
  | x :: r, y :: q => by
    simp only [Op.bytesLess, Bool.or_eq_true, decide_eq_true_eq, Bool.and_eq_true, beq_iff_eq, List.cons.injEq]
    rcases less_tri r q with h | h | h
    all_goals rcases Nat.lt_trichotomy x.toNat y.toNat with h' | h' | h'
    all_goals first
      | (left; left; exact UInt8.lt_iff_toNat_lt.2 h')
      | (right; right; left; exact UInt8.lt_iff_toNat_lt.2 h')
      | (have e : x = y := UInt8.toNat_inj.1 h'; subst e; first | exact .inl (.inr ⟨rfl, h⟩) | exact .inr (.inl ⟨rfl, h⟩) | exact .inr (.inr (.inr ⟨rfl, h⟩)))
theorem less_asym : ∀ a b : List UInt8, Op.bytesLess a b = true → Op.bytesLess b a = false
  | [], [], h => rfl
  | [], _ :: _, h => rfl
  | _ :: _, [], h => by simp [Op.bytesLess] at h
  | x :: r, y :: q, h => by
    simp only [Op.bytesLess, Bool.or_eq_true, decide_eq_true_eq, Bool.and_eq_true, beq_iff_eq] at h
    rcases h with h | ⟨rfl, h⟩
    · have h1 : ¬ y < x := by rw [UInt8.lt_iff_toNat_lt] at *; omega
      have h2 : ¬ y = x := fun e => by subst e; rw [UInt8.lt_iff_toNat_lt] at h; omega
      simp [Op.bytesLess, h1, h2]
    · have h1 : ¬ x < x := by rw [UInt8.lt_iff_toNat_lt]; omega
      simp [Op.bytesLess, h1, less_asym r q h]
theorem less_trans : ∀ a b c : List UInt8, Op.bytesLess a b = true → Op.bytesLess b c = true → Op.bytesLess a c = true
  | _, _, [], _, h => by simp [Op.bytesLess] at h
  | _, [], _ :: _, h, _ => by simp [Op.bytesLess] at h
  | [], _ :: _, _ :: _, _, _ => rfl
  | x :: r, y :: q, z :: p, h, h' => by
    simp only [Op.bytesLess, Bool.or_eq_true, decide_eq_true_eq, Bool.and_eq_true, beq_iff_eq] at h h' ⊢
    rcases h with h | ⟨rfl, h⟩ <;> rcases h' with h' | ⟨rfl, h'⟩
    · left; rw [UInt8.lt_iff_toNat_lt] at *; omega
    · exact .inl h
    · exact .inl h'
    · exact .inr ⟨rfl, less_trans r q p h h'⟩
theorem beq_list {a b : ByteArray} : (a.toList == b.toList) = true ↔ a.toList = b.toList := beq_iff_eq
theorem ordS_cases (a b : ByteArray) : (ordS a b = -1 ∧ Op.bytesLess a.toList b.toList = true) ∨ (ordS a b = 0 ∧ a.toList = b.toList) ∨ (ordS a b = 1 ∧ Op.bytesLess b.toList a.toList = true) := by
  unfold ordS
  rcases less_tri a.toList b.toList with h | h | h
  · left; rw [if_pos h]; exact ⟨rfl, h⟩
  · right; left
    rw [h, less_irr]
    simp
  · right; right
    have h1 := less_asym _ _ h
    have h2 : (a.toList == b.toList) = false := by
      cases hb : (a.toList == b.toList) with
      | false => rfl
      | true => rw [beq_list] at hb; rw [hb, less_irr] at h; cases h
    rw [h1, h2]
    simp [h]
theorem ordS_lt {a b : ByteArray} (h : Op.bytesLess a.toList b.toList = true) : ordS a b = -1 := if_pos h
theorem ordS_eq {a b : ByteArray} (h : a.toList = b.toList) : ordS a b = 0 := by unfold ordS; rw [h, less_irr]; simp
theorem ordS_gt {a b : ByteArray} (h : Op.bytesLess b.toList a.toList = true) : ordS a b = 1 := by
  rcases ordS_cases a b with ⟨_, h1⟩ | ⟨_, h1⟩ | ⟨h0, _⟩
  · rw [less_asym _ _ h1] at h; cases h
  · rw [h1, less_irr] at h; cases h
  · exact h0
theorem ordS_anti (a b : ByteArray) : ordS b a = - ordS a b := by
  rcases ordS_cases a b with ⟨h0, h1⟩ | ⟨h0, h1⟩ | ⟨h0, h1⟩
  · rw [h0, ordS_gt h1]; rfl
  · rw [h0, ordS_eq h1.symm]; rfl
  · rw [h0, ordS_lt h1]
theorem ordS_bd (a b : ByteArray) : -1 ≤ ordS a b ∧ ordS a b ≤ 1 := by rcases ordS_cases a b with ⟨h, _⟩ | ⟨h, _⟩ | ⟨h, _⟩ <;> rw [h] <;> decide
theorem ordS_tr {a b c : ByteArray} (h1 : ordS a b ≤ 0) (h2 : ordS b c ≤ 0) : ordS a c ≤ 0 ∧ (ordS a c = 0 ↔ ordS a b = 0 ∧ ordS b c = 0) := by
  rcases ordS_cases a b with ⟨h0, h3⟩ | ⟨h0, h3⟩ | ⟨h0, h3⟩
  · rcases ordS_cases b c with ⟨h0', h4⟩ | ⟨h0', h4⟩ | ⟨h0', h4⟩
    · rw [ordS_lt (less_trans _ _ _ h3 h4), h0]; omega
    · rw [h4] at h3; rw [ordS_lt h3, h0]; omega
    · omega
  · rcases ordS_cases b c with ⟨h0', h4⟩ | ⟨h0', h4⟩ | ⟨h0', h4⟩
    · rw [← h3] at h4; rw [ordS_lt h4, h0']; simp
    · rw [ordS_eq (h3.trans h4), h0, h0']; simp
    · omega
  · omega
/-! values -/
mutual
theorem cmpV_anti : ∀ a b : VT, cmpV b a = - cmpV a b
  | .unit, b => by cases b <;> exact ordI_anti _ _
  | .truth p, b => by cases b <;> exact ordI_anti _ _
  | .int p, b => by cases b <;> exact ordI_anti _ _
  | .text p, b => by cases b <;> first | exact ordS_anti _ _ | exact ordI_anti _ _
  | .list p, b => by cases b <;> first | exact cmpL_anti _ _ | exact ordI_anti _ _
theorem cmpL_anti : ∀ a b : List VT, cmpL b a = - cmpL a b
  | [], [] => rfl
  | [], _ :: _ => rfl
  | _ :: _, [] => rfl
  | x :: r, y :: q => by
    have h1 := cmpV_anti x y
    have h2 := cmpL_anti r q
    simp only [cmpL]
    by_cases h : cmpV x y = 0
    · rw [if_neg (by rw [h1, h]; decide), if_neg (by rw [h]; decide), h2]
    · rw [if_pos (by rw [h1]; omega), if_pos h, h1]
end
mutual
theorem cmpV_bd : ∀ a b : VT, -1 ≤ cmpV a b ∧ cmpV a b ≤ 1
  | .unit, b => by cases b <;> exact ordI_bd _ _
  | .truth p, b => by cases b <;> exact ordI_bd _ _
  | .int p, b => by cases b <;> exact ordI_bd _ _
  | .text p, b => by cases b <;> first | exact ordS_bd _ _ | exact ordI_bd _ _
  | .list p, b => by cases b <;> first | exact cmpL_bd _ _ | exact ordI_bd _ _
theorem cmpL_bd : ∀ a b : List VT, -1 ≤ cmpL a b ∧ cmpL a b ≤ 1
  | [], [] => by simp [cmpL]
  | [], _ :: _ => by simp [cmpL]
  | _ :: _, [] => by simp [cmpL]
  | x :: r, y :: q => by
    simp only [cmpL]
    split
    · exact cmpV_bd x y
    · exact cmpL_bd r q
end
theorem rank_tr {a b c : Int} {x y z : Int} (hx : a ≠ b → x = ordI a b) (hy : b ≠ c → y = ordI b c) (hz : a ≠ c → z = ordI a c) (h1 : x ≤ 0) (h2 : y ≤ 0)
    (same : a = b → b = c → z ≤ 0 ∧ (z = 0 ↔ x = 0 ∧ y = 0)) : z ≤ 0 ∧ (z = 0 ↔ x = 0 ∧ y = 0) := by
  by_cases e1 : a = b
  · by_cases e2 : b = c
    · exact same e1 e2
    · have h3 := hy e2
      have h4 : b < c := by
        rcases Int.lt_or_gt_of_ne e2 with h | h
        · exact h
        · rw [ordI_gt h] at h3; omega
      rw [ordI_lt h4] at h3
      have h5 := hz (by omega)
      rw [ordI_lt (by omega)] at h5
      omega
  · have h3 := hx e1
    have h4 : a < b := by
      rcases Int.lt_or_gt_of_ne e1 with h | h
      · exact h
      · rw [ordI_gt h] at h3; omega
    rw [ordI_lt h4] at h3
    by_cases e2 : b = c
    · have h5 := hz (by omega)
      rw [ordI_lt (by omega)] at h5
      omega
    · have h6 := hy e2
      have h7 : b < c := by
        rcases Int.lt_or_gt_of_ne e2 with h | h
        · exact h
        · rw [ordI_gt h] at h6; omega
      have h5 := hz (by omega)
      rw [ordI_lt (by omega)] at h5
      omega
mutual
theorem cmpV_tr : ∀ a b c : VT, cmpV a b ≤ 0 → cmpV b c ≤ 0 → cmpV a c ≤ 0 ∧ (cmpV a c = 0 ↔ cmpV a b = 0 ∧ cmpV b c = 0)
  | a, b, c => by
    intro h1 h2
    refine rank_tr (a := rankV a) (b := rankV b) (c := rankV c) cmpV_rank cmpV_rank cmpV_rank h1 h2 fun e1 e2 => ?_
    cases a with
    | list p =>
      cases b with
      | list q =>
        cases c with
        | list r => exact cmpL_tr p q r h1 h2
        | _ => simp [rankV] at e2
      | _ => simp [rankV] at e1
    | unit => 
      cases b <;> simp [rankV] at e1
      cases c <;> simp [rankV] at e2
      exact ordI_tr h1 h2
    | truth p => 
      cases b <;> simp [rankV] at e1
      cases c <;> simp [rankV] at e2
      exact ordI_tr h1 h2
    | int p => 
      cases b <;> simp [rankV] at e1
      cases c <;> simp [rankV] at e2
      exact ordI_tr h1 h2
    | text p => 
      cases b <;> simp [rankV] at e1
      cases c <;> simp [rankV] at e2
      exact ordS_tr h1 h2
theorem cmpL_tr : ∀ a b c : List VT, cmpL a b ≤ 0 → cmpL b c ≤ 0 → cmpL a c ≤ 0 ∧ (cmpL a c = 0 ↔ cmpL a b = 0 ∧ cmpL b c = 0)
  | [], [], [] => by simp [cmpL]
  | [], [], _ :: _ => by simp [cmpL]
  | [], _ :: _, [] => by simp [cmpL]
  | [], _ :: _, _ :: _ => by simp [cmpL]
  | _ :: _, [], _ => by simp [cmpL]
  | _ :: _, _ :: _, [] => by simp [cmpL]
  | x :: r, y :: q, z :: p => by
    have ih1 := cmpV_tr x y z
    have ih2 := cmpL_tr r q p
    simp only [cmpL]
    by_cases e1 : cmpV x y = 0
    · by_cases e2 : cmpV y z = 0
      · have h3 := (ih1 (by omega) (by omega)).2.2 ⟨e1, e2⟩
        rw [if_neg (by simp [e1]), if_neg (by simp [e2]), if_neg (by simp [h3])]
        exact ih2
      · rw [if_neg (by simp [e1]), if_pos e2]
        intro h1 h2
        obtain ⟨h3, h4⟩ := ih1 (by omega) h2
        have h5 : cmpV x z ≠ 0 := fun h => e2 (h4.1 h).2
        rw [if_pos h5]
        omega
    · rw [if_pos e1]
      by_cases e2 : cmpV y z = 0
      · rw [if_neg (by simp [e2])]
        intro h1 h2
        obtain ⟨h3, h4⟩ := ih1 h1 (by omega)
        have h5 : cmpV x z ≠ 0 := fun h => e1 (h4.1 h).1
        rw [if_pos h5]
        omega
      · rw [if_pos e2]
        intro h1 h2
        obtain ⟨h3, h4⟩ := ih1 h1 h2
        have h5 : cmpV x z ≠ 0 := fun h => e1 (h4.1 h).1
        rw [if_pos h5]
        omega
end
theorem F1 (p q : PT) : compP q p = - compP p q := by
  unfold compP
  cases mayP p <;> cases mayP q <;> simp
  exact cmpV_anti _ _
theorem F2 (p q : PT) : -1 ≤ compP p q ∧ compP p q ≤ 1 := by
  unfold compP
  cases mayP p <;> cases mayP q <;> simp
  exact cmpV_bd _ _
theorem F3 (p q : PT) : compP p q = 0 ↔ (sameP p q = true ∨ (mayP p = false ∧ mayP q = false)) := by
  unfold compP sameP
  cases mayP p <;> cases mayP q <;> simp
theorem F4 (p q r : PT) : compP p q ≤ 0 → compP q r ≤ 0 → compP p r ≤ 0 ∧ (compP p r = 0 ↔ compP p q = 0 ∧ compP q r = 0) := by
  have h := cmpV_tr (valOf p) (valOf q) (valOf r)
  have h1 := cmpV_bd (valOf p) (valOf q)
  unfold compP
  cases mayP p <;> cases mayP q <;> cases mayP r <;> simp
  exact h
end

section
open Go.RowKit
set_option maxRecDepth 100000
def EqFor (p : PT) : Prop := ∀ (w : World) (v u : Value), ArgP w p v → ArgP w p u → Calls Tryd.prog 37 #[v, u] w (RetB w (.bool true))
theorem arg_of_in {w : World} {b o : Nat} {p : PT} (h : InP w b o p) : ∃ k n s la lc, ∃ l : List PT, p = .mk k n s l ∧ CellsP w b o k n s la l.length lc ∧ ArgP w p (.agg #[.int .i64 k, .int .i64 n, .string s, .slice la l.length lc]) := by
  cases p with
  | mk k n s l =>
    obtain ⟨h1, h2, la, lc, h3, h4⟩ := h
    exact ⟨k, n, s, la, lc, l, rfl, h3, h1, h2, la, lc, rfl, h4⟩
theorem cell_stepA {w w' : World} {a : Addr} {v : Value} (h : w.cell? a = some v) (hb : Below w.heap.size w w') : w'.cell? a = some v := (hb.cell (World.block_lt_of_cell? w a h)).trans h
theorem stepc10 {W w w' : World} {a0 a1 a2 a3 a4 a5 a6 a7 a8 a9 : Addr} {v0 v1 v2 v3 v4 v5 v6 v7 v8 v9 : Value} (h : w.cell? a0 = some v0 ∧ w.cell? a1 = some v1 ∧ w.cell? a2 = some v2 ∧ w.cell? a3 = some v3 ∧ w.cell? a4 = some v4 ∧ w.cell? a5 = some v5 ∧ w.cell? a6 = some v6 ∧ w.cell? a7 = some v7 ∧ w.cell? a8 = some v8 ∧ w.cell? a9 = some v9 ∧ Below W.heap.size W w) (hb : Below w.heap.size w w') :
    w'.cell? a0 = some v0 ∧ w'.cell? a1 = some v1 ∧ w'.cell? a2 = some v2 ∧ w'.cell? a3 = some v3 ∧ w'.cell? a4 = some v4 ∧ w'.cell? a5 = some v5 ∧ w'.cell? a6 = some v6 ∧ w'.cell? a7 = some v7 ∧ w'.cell? a8 = some v8 ∧ w'.cell? a9 = some v9 ∧ Below W.heap.size W w' := by
  obtain ⟨h0, h1, h2, h3, h4, h5, h6, h7, h8, h9, h'⟩ := h
  exact ⟨cell_stepA h0 hb, cell_stepA h1 hb, cell_stepA h2 hb, cell_stepA h3 hb, cell_stepA h4 hb, cell_stepA h5 hb, cell_stepA h6 hb, cell_stepA h7 hb, cell_stepA h8 hb, cell_stepA h9 hb, below_step h' hb⟩
theorem and11 {a1 a2 a3 a4 a5 a6 a7 a8 a9 a10 b : Prop} (h : a1 ∧ a2 ∧ a3 ∧ a4 ∧ a5 ∧ a6 ∧ a7 ∧ a8 ∧ a9 ∧ a10 ∧ b) : b := h.2.2.2.2.2.2.2.2.2.2
set_option maxHeartbeats 4000000 in
theorem eq_step (k n : Int) (s : ByteArray) (l : List PT) (ih : ∀ p ∈ l, EqFor p) : EqFor (.mk k n s l) := by
  intro w v u hv hu
  have g := hv
  have g' := hu
  obtain ⟨_, hln, la, lc, rfl, hla⟩ := g
  obtain ⟨_, _, la', lc', rfl, hla'⟩ := g'
  have H := Lib.hid ih
  have HA := Lib.hid hla
  have HA' := Lib.hid hla'
  clear hv hu ih hla hla'
  go_enter Tryd.func37, Tryd.ntmps37
  go_wp2_with fail
  have hd0 : ((w.alloc (.cells #[.int .i64 k, .int .i64 n, .string s, .slice la l.length lc] 24)).alloc (.cells #[.int .i64 k, .int .i64 n, .string s, .slice la' l.length lc'] 24)).cell? ⟨w.heap.size + 1, 3, none⟩ = some (.slice la' l.length lc') := by
    simp
  have hB0 : Below w.heap.size w ((w.alloc (.cells #[.int .i64 k, .int .i64 n, .string s, .slice la l.length lc] 24)).alloc (.cells #[.int .i64 k, .int .i64 n, .string s, .slice la' l.length lc'] 24)) := (alloc_below w _).alloc (by simp) _
  have hc0 : ((w.alloc (.cells #[.int .i64 k, .int .i64 n, .string s, .slice la l.length lc] 24)).alloc (.cells #[.int .i64 k, .int .i64 n, .string s, .slice la' l.length lc'] 24)).cell? ⟨w.heap.size, 3, none⟩ = some (.slice la l.length lc) :=
    (CellsP.below (alloc_below _ _) (cells_new w (.int .i64 k) (.int .i64 n) (.string s) (.slice la l.length lc) 24) : CellsP _ _ _ _ _ _ _ _ _).2.2.2
  generalize ((w.alloc (.cells #[.int .i64 k, .int .i64 n, .string s, .slice la l.length lc] 24)).alloc (.cells #[.int .i64 k, .int .i64 n, .string s, .slice la' l.length lc'] 24)) = W at hc0 hd0 hB0 ⊢
  obtain ⟨N, hN⟩ : ∃ N, N = w.heap.size := ⟨_, rfl⟩
  simp only [← hN] at hc0 hd0 ⊢
  have HN := Lib.hid hN
  clear hN
  have HB0 := Lib.hid hB0
  clear hB0
  go_loopw [5] (fun iv wr => ∃ (i : Nat), i ≤ l.length ∧ iv = .int .i64 i ∧ Below W.heap.size W wr)
    (fun i _ => l.length - (intOf i).toNat)
  case atStart => exact ⟨0, by omega, rfl, Below.refl _ _⟩
  case round =>
    obtain ⟨i, hi, rfl, hB⟩ := hrel
    have c3 := cell_step hc0 hB
    have d3 := cell_step hd0 hB
    by_cases hlt : i < l.length
    · obtain ⟨b', o', rfl, hin⟩ := HA.out (by intro h; subst h; simp at hlt)
      obtain ⟨b'', o'', rfl, hin'⟩ := HA'.out (by intro h; subst h; simp at hlt)
      have hBw := HB0.out.trans (hB.mono HB0.out.size)
      have hp := InPs.get l b' o' i hlt (InPs.below hBw _ _ _ hin)
      have hq := InPs.get l b'' o'' i hlt (InPs.below hBw _ _ _ hin')
      rw [Nat.mul_comm] at hp hq
      have HE : Hid (∀ (w : World) (v u : Value), ArgP w l[i] v → ArgP w l[i] u → Calls Tryd.prog 37 #[v, u] w (RetB w (.bool true))) := Lib.hid (H.out l[i] (List.getElem_mem hlt))
      obtain ⟨k1, n1, s1, la1, lc1, l1, e1, ⟨x0, x1, x2, x3⟩, ha1⟩ := arg_of_in hp
      obtain ⟨k2, n2, s2, la2, lc2, l2, e2, ⟨y0, y1, y2, y3⟩, ha2⟩ := arg_of_in hq
      rw [e1] at e2
      simp only [PT.mk.injEq] at e2
      obtain ⟨rfl, rfl, rfl, rfl⟩ := e2
      rw [e1] at HE ha1 ha2
      have HX := Lib.hid ha1
      have HY := Lib.hid ha2
      clear ha1 ha2 hp hq hin hin' e1
      have hBd : Below wr.heap.size wr wr.drew := (Below.refl _ _).drew
      go_wp2_with fail
      go_region_held3 (fun w' => w'.cell? ⟨N, 3, none⟩ = some (.slice (some ⟨b', o', none⟩) l.length lc) ∧ w'.cell? ⟨N + 1, 3, none⟩ = some (.slice (some ⟨b'', o'', none⟩) l.length lc') ∧
          w'.cell? ⟨b', o' + i * 4, none⟩ = some (.int .i64 k1) ∧ w'.cell? ⟨b', o' + i * 4 + 1, none⟩ = some (.int .i64 n1) ∧ w'.cell? ⟨b', o' + i * 4 + 2, none⟩ = some (.string s1) ∧ w'.cell? ⟨b', o' + i * 4 + 3, none⟩ = some (.slice la1 l1.length lc1) ∧
          w'.cell? ⟨b'', o'' + i * 4, none⟩ = some (.int .i64 k1) ∧ w'.cell? ⟨b'', o'' + i * 4 + 1, none⟩ = some (.int .i64 n1) ∧ w'.cell? ⟨b'', o'' + i * 4 + 2, none⟩ = some (.string s1) ∧ w'.cell? ⟨b'', o'' + i * 4 + 3, none⟩ = some (.slice la2 l1.length lc2) ∧ Below wr.heap.size wr w')
        (first | exact ⟨c3, d3, x0, x1, x2, x3, y0, y1, y2, y3, hBd⟩ | exact stepc10 (w := wr.drew) ⟨c3, d3, x0, x1, x2, x3, y0, y1, y2, y3, hBd⟩ hb | (refine stepc10 ?_ hb; assumption) | assumption)
        (first
        | (go_at_call 37; ((with_reducible refine (HE.out _ _ _ (ArgP.below ?_ HX.out) (ArgP.below ?_ HY.out)).mono ?_); (first | assumption | (apply and11; assumption)); (first | assumption | (apply and11; assumption)); rintro e w1 ⟨rfl, hb⟩)))
      rename_i hS
      have hBS := and11 hS
      clear hS
      go_wp2_with fail
      go_roundw
      case rel => exact ⟨i + 1, by omega, by go_num, hB.trans (hBS.mono hB.size)⟩
      case measure => simp [intOf]; omega
    · obtain rfl : i = l.length := by omega
      go_wp2_with fail
      go_ret
      exact ⟨rfl, HB0.out.trans (hB.mono HB0.out.size)⟩
mutual
/-- 'Eq' of one plain value with itself, in whatever memory. -/
theorem eq_any : ∀ p : PT, EqFor p
  | .mk k n s l => eq_step k n s l (eq_anys l)
theorem eq_anys : ∀ l : List PT, ∀ p ∈ l, EqFor p
  | [], p, h => by simp at h
  | q :: r, p, h => by
    rcases List.mem_cons.1 h with h | h
    · rw [h]; exact eq_any q
    · exact eq_anys r p h
end
end

section
open Go.RowKit
/-! '==' and '!=' between interface values. -/
@[go_sem] theorem eq58_one (w : World) : (binOp .eql 30 (.iface 58 (.int .i64 1)) (.iface 58 (.int .i64 1))).run Tryd.prog w = .ok (.bool true) w := by kernel_rfl
@[go_sem] theorem eq63_yes (w : World) : (binOp .eql 30 (.iface 63 (.bool true)) (.iface 63 (.bool true))).run Tryd.prog w = .ok (.bool true) w := by kernel_rfl
@[go_sem] theorem eqnil_nil (w : World) : (binOp .eql 30 .nilIface .nilIface).run Tryd.prog w = .ok (.bool true) w := by kernel_rfl
@[go_sem] theorem eqnil_if (t : TypeId) (v : Value) (w : World) : (binOp .eql 30 (.iface t v) .nilIface).run Tryd.prog w = .ok (.bool false) w := by kernel_rfl
@[go_sem] theorem eq58_58 (m n : Int) (w : World) : (binOp .eql 30 (.iface 58 (.int .i64 m)) (.iface 58 (.int .i64 n))).run Tryd.prog w = .ok (.bool (m == n)) w := by kernel_rfl
@[go_sem] theorem neq58_58 (m n : Int) (w : World) : (binOp .neq 30 (.iface 58 (.int .i64 m)) (.iface 58 (.int .i64 n))).run Tryd.prog w = .ok (.bool (!(m == n))) w := by kernel_rfl
end
end Go.Proofs.YtkpnnhebfaggeaaDoor
