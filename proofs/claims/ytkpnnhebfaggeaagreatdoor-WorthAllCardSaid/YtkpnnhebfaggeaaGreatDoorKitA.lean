/-
  Plain trees, values and the program worth: walks by the kit.
  Conditions: none.
-/
import Derived.Test.YtkpnnhebfaggeaaGreatDoorChecked
import Derived.WalkKit
import Derived.WalkSpells
import Derived.WalkLawsBesides
import Derived.Deep.QuietTactic
import Derived.BigQuiet
import Derived.Lib.Hide
import Derived.Deep.RegionHeld3
import Derived.Deep.RegionWith
import Derived.Test.YtkpnnhebfaggeaaGreatDoorShelf
import Derived.Lib.FrozenHead2
import Derived.Lib.OthersKept
import Derived.WalkSmall
import Derived.Maps.AppendAt
import Derived.Lib.ItoaNum
import Derived.Deep.AppendLies
import Derived.Deep.DeepCutAuto
namespace Go.Proofs.YtkpnnhebfaggeaaGreatDoor
set_option linter.unusedVariables false
set_option linter.unusedSimpArgs false
section
open Go.RowKit

/-- A plain value. -/
inductive PT where
  | mk (k n : Int) (s : ByteArray) (l : List PT)

/-- It lies there. -/
def CellsP (w : World) (b o : Nat) (k n : Int) (s : ByteArray) (la : Option Addr) (ln lc : Nat) : Prop :=
  w.cell? ⟨b, o, none⟩ = some (.int .i64 k) ∧ w.cell? ⟨b, o + 1, none⟩ = some (.int .i64 n) ∧ w.cell? ⟨b, o + 2, none⟩ = some (.string s) ∧ w.cell? ⟨b, o + 3, none⟩ = some (.slice la ln lc)
mutual
def InP (w : World) (b o : Nat) : PT → Prop
  | .mk k n s l => s.size ≤ 140737488355328 ∧ l.length ≤ 4398046511104 ∧ ∃ la lc, CellsP w b o k n s la l.length lc ∧ (l ≠ [] → ∃ b' o', la = some ⟨b', o', none⟩ ∧ InPs w b' o' l)
def InPs (w : World) (b o : Nat) : List PT → Prop
  | [] => True
  | p :: r => InP w b o p ∧ InPs w b (o + 4) r
end
mutual
theorem InP.cong {w w' : World} (hc : ∀ a, w'.cell? a = w.cell? a) : ∀ (p : PT) (b o : Nat), InP w b o p → InP w' b o p
  | .mk k n s l, b, o, h => by
    simp only [InP, CellsP, hc] at h ⊢
    obtain ⟨h1, h2, la, lc, h3, h4⟩ := h
    refine ⟨h1, h2, la, lc, h3, fun hl => ?_⟩
    obtain ⟨b', o', h5, h6⟩ := h4 hl
    exact ⟨b', o', h5, InPs.cong hc l b' o' h6⟩
theorem InPs.cong {w w' : World} (hc : ∀ a, w'.cell? a = w.cell? a) : ∀ (l : List PT) (b o : Nat), InPs w b o l → InPs w' b o l
  | [], b, o, h => trivial
  | p :: r, b, o, h => by
    simp only [InPs] at h ⊢
    exact ⟨InP.cong hc p b o h.1, InPs.cong hc r b (o + 4) h.2⟩
end
theorem InPs.get {w : World} : ∀ (l : List PT) (b o i : Nat) (h : i < l.length), InPs w b o l → InP w b (o + 4 * i) l[i]
  | p :: r, b, o, 0, h, hp => by simpa using hp.1
  | p :: r, b, o, i + 1, h, hp => by
    have := InPs.get r b (o + 4) i (by simpa using h) hp.2
    simpa [Nat.mul_add, Nat.add_assoc, Nat.add_comm 4] using this

mutual
def meas : PT → Int → Int → Int × Bool
  | .mk k n s l, left, deep =>
    if left < 1 ∨ (k ≠ 4 ∧ s.toList ≠ []) ∨ (k ≠ 5 ∧ 0 < l.length) then (0, false)
    else if k = 1 then (1, decide (n = 0))
    else if k = 2 then (1, decide (n = 0 ∨ n = 1))
    else if k = 3 then (1, true)
    else if k = 4 then (1 + s.size, decide (n = 0 ∧ (s.size : Int) < left))
    else if k = 5 then (if n ≠ 0 ∨ deep = 64 then (0, false) else measL l left (deep + 1) 1)
    else (0, false)
def measL : List PT → Int → Int → Int → Int × Bool
  | [], _, _, n => (n, true)
  | p :: r, left, deep, n => if (meas p (left - n) deep).2 then measL r left deep (n + (meas p (left - n) deep).1) else (0, false)
end
mutual
theorem meas_bd : ∀ (p : PT) (left deep : Int), (meas p left deep).2 = true → 1 ≤ (meas p left deep).1 ∧ (meas p left deep).1 ≤ left
  | .mk k n s l, left, deep, h => by
    unfold meas at h ⊢
    have ih := measL_bd l left (deep + 1) 1 (by omega)
    split at h
    · simp at h
    · rename_i h0
      rw [if_neg h0]
      split at h
      · rename_i h1; rw [if_pos h1]; dsimp only; omega
      · rename_i h1
        rw [if_neg h1]
        split at h
        · rename_i h1; rw [if_pos h1]; dsimp only; omega
        · rename_i h1
          rw [if_neg h1]
          split at h
          · rename_i h1; rw [if_pos h1]; dsimp only; omega
          · rename_i h1
            rw [if_neg h1]
            split at h
            · rename_i h1; rw [if_pos h1]; dsimp only at h ⊢; simp only [decide_eq_true_eq] at h; omega
            · rename_i h1
              rw [if_neg h1]
              split at h
              · rename_i h1
                rw [if_pos h1]
                split at h
                · simp at h
                · rename_i h2
                  rw [if_neg h2]
                  exact ih (by omega) h
              · simp at h
theorem measL_bd : ∀ (l : List PT) (left deep n : Int), 1 ≤ n → n ≤ left → (measL l left deep n).2 = true → 1 ≤ (measL l left deep n).1 ∧ (measL l left deep n).1 ≤ left
  | [], left, deep, n, h1, h2, h => by simp only [measL]; omega
  | p :: r, left, deep, n, h1, h2, h => by
    simp only [measL] at h ⊢
    split at h
    · rename_i hp
      rw [if_pos hp]
      have := meas_bd p (left - n) deep hp
      exact measL_bd r left deep _ (by omega) (by omega) h
    · simp at h
end
end

section
open Go.RowKit
set_option maxRecDepth 100000
def MeasP (w : World) (r : Int × Bool) (e : Ending) (w' : World) : Prop := e = .returned (.tuple #[.int .i64 r.1, .bool r.2]) ∧ ∃ n, w' = w.drewN n
variable (w : World) (b o : Nat) (k n left deep : Int) (s : ByteArray) (la : Option Addr) (ln lc : Nat)
set_option maxHeartbeats 1000000 in
theorem m_low (hc : CellsP w b o k n s la ln lc) (hl : left < 1) :
    Calls Tryz.prog 34 #[.pointer (some ⟨b, o, none⟩), .int .i64 left, .int .i64 deep] w (MeasP w (0, false)) := by
  obtain ⟨h0, h1, h2, h3⟩ := hc
  go_enter Tryz.func34, Tryz.ntmps34
  go_wp2_with fail
  go_ret2
  exact ⟨rfl, 0, rfl⟩
set_option maxHeartbeats 1000000 in
theorem m_text (hc : CellsP w b o k n s la ln lc) (hl : 1 ≤ left) (hk : k ≠ 4) (hs : s.toList ≠ []) :
    Calls Tryz.prog 34 #[.pointer (some ⟨b, o, none⟩), .int .i64 left, .int .i64 deep] w (MeasP w (0, false)) := by
  obtain ⟨h0, h1, h2, h3⟩ := hc
  go_enter Tryz.func34, Tryz.ntmps34
  go_wp2_with fail
  go_ret2
  exact ⟨rfl, 0, rfl⟩
set_option maxHeartbeats 1000000 in
theorem m_list4 (hc : CellsP w b o 4 n s la ln lc) (hl : 1 ≤ left) (hk : 0 < ln) :
    Calls Tryz.prog 34 #[.pointer (some ⟨b, o, none⟩), .int .i64 left, .int .i64 deep] w (MeasP w (0, false)) := by
  obtain ⟨h0, h1, h2, h3⟩ := hc
  go_enter Tryz.func34, Tryz.ntmps34
  go_wp2_with fail
  go_ret2
  exact ⟨rfl, 0, rfl⟩
set_option maxHeartbeats 1000000 in
theorem m_list (hc : CellsP w b o k n s la ln lc) (hl : 1 ≤ left) (hk5 : (k != 5) = true) (hk4 : (k != 4) = true) (hs : s.toList = []) (hk : 0 < ln) :
    Calls Tryz.prog 34 #[.pointer (some ⟨b, o, none⟩), .int .i64 left, .int .i64 deep] w (MeasP w (0, false)) := by
  obtain ⟨h0, h1, h2, h3⟩ := hc
  go_enter Tryz.func34, Tryz.ntmps34
  go_wp2_with fail
  go_ret2
  exact ⟨rfl, 0, rfl⟩
set_option maxHeartbeats 1000000 in
theorem m_unit (hc : CellsP w b o 1 n s la 0 lc) (hl : 1 ≤ left) (hs : s.toList = []) :
    Calls Tryz.prog 34 #[.pointer (some ⟨b, o, none⟩), .int .i64 left, .int .i64 deep] w (MeasP w (1, decide (n = 0))) := by
  obtain ⟨h0, h1, h2, h3⟩ := hc
  go_enter Tryz.func34, Tryz.ntmps34
  go_wp2_with fail
  go_quiet (fail)
  go_wp2_with fail
  go_ret2
  exact ⟨rfl, nq, rfl⟩
set_option maxHeartbeats 1000000 in
theorem m_truth (hc : CellsP w b o 2 n s la 0 lc) (hl : 1 ≤ left) (hs : s.toList = []) :
    Calls Tryz.prog 34 #[.pointer (some ⟨b, o, none⟩), .int .i64 left, .int .i64 deep] w (MeasP w (1, decide (n = 0 ∨ n = 1))) := by
  obtain ⟨h0, h1, h2, h3⟩ := hc
  by_cases hn : n = 0
  · go_enter Tryz.func34, Tryz.ntmps34
    go_wp2_with fail
    go_quiet (fail)
    go_wp2_with fail
    go_ret2
    exact ⟨by simp [hn], nq, rfl⟩
  · have hn' : (n == 0) = false := by simpa using hn
    have hd : decide (n = 0 ∨ n = 1) = decide (n = 1) := by simp [hn]
    rw [hd]; clear hd
    go_enter Tryz.func34, Tryz.ntmps34
    go_wp2_with fail
    go_quiet (fail)
    go_wp2_with fail
    go_ret2
    exact ⟨rfl, nq, rfl⟩
set_option maxHeartbeats 1000000 in
theorem m_int (hc : CellsP w b o 3 n s la 0 lc) (hl : 1 ≤ left) (hs : s.toList = []) :
    Calls Tryz.prog 34 #[.pointer (some ⟨b, o, none⟩), .int .i64 left, .int .i64 deep] w (MeasP w (1, true)) := by
  obtain ⟨h0, h1, h2, h3⟩ := hc
  go_enter Tryz.func34, Tryz.ntmps34
  go_wp2_with fail
  go_ret2
  exact ⟨rfl, 0, rfl⟩
set_option maxHeartbeats 1000000 in
theorem m_str (hc : CellsP w b o 4 n s la 0 lc) (hl : 1 ≤ left) (hs : s.size ≤ 140737488355328) :
    Calls Tryz.prog 34 #[.pointer (some ⟨b, o, none⟩), .int .i64 left, .int .i64 deep] w (MeasP w (1 + s.size, decide (n = 0 ∧ (s.size : Int) < left))) := by
  obtain ⟨h0, h1, h2, h3⟩ := hc
  have e1 : IntKind.i64.wrap (1 + (s.size : Int)) = 1 + (s.size : Int) := IntWalk.i64_in _ (by omega)
  by_cases hn : n = 0
  · subst hn
    simp only [true_and]
    go_enter Tryz.func34, Tryz.ntmps34
    go_wp2_with fail
    go_quiet (fail)
    go_wp2_with fail
    go_ret2
    exact ⟨rfl, nq, rfl⟩
  · have hn' : (n == 0) = false := by simpa using hn
    simp only [hn, false_and, decide_false]
    go_enter Tryz.func34, Tryz.ntmps34
    go_wp2_with fail
    go_quiet (fail)
    go_wp2_with fail
    go_ret2
    exact ⟨rfl, nq, rfl⟩
set_option maxHeartbeats 1000000 in
theorem m_none (hc : CellsP w b o k n s la 0 lc) (hl : 1 ≤ left) (hs : s.toList = []) (k1 : (k == 1) = false) (k2 : (k == 2) = false) (k3 : (k == 3) = false) (k4 : (k == 4) = false) (k5 : (k == 5) = false) (k4' : (k != 4) = true) (k5' : (k != 5) = true) :
    Calls Tryz.prog 34 #[.pointer (some ⟨b, o, none⟩), .int .i64 left, .int .i64 deep] w (MeasP w (0, false)) := by
  obtain ⟨h0, h1, h2, h3⟩ := hc
  go_enter Tryz.func34, Tryz.ntmps34
  go_wp2_with fail
  go_ret2
  exact ⟨rfl, 0, rfl⟩
end

section
open Go.RowKit
set_option maxRecDepth 100000
def MeasFor (p : PT) : Prop := ∀ (w : World) (b o : Nat) (left deep : Int), InP w b o p → left ≤ 65536 → 0 ≤ deep → deep ≤ 64 →
  Calls Tryz.prog 34 #[.pointer (some ⟨b, o, none⟩), .int .i64 left, .int .i64 deep] w (MeasP w (meas p left deep))
set_option maxHeartbeats 1000000 in
theorem m_five0 (w : World) (b o : Nat) (n left deep : Int) (s : ByteArray) (la : Option Addr) (ln lc : Nat) (hc : CellsP w b o 5 n s la ln lc) (hl : 1 ≤ left) (hs : s.toList = []) (hn : n ≠ 0 ∨ deep = 64) :
    Calls Tryz.prog 34 #[.pointer (some ⟨b, o, none⟩), .int .i64 left, .int .i64 deep] w (MeasP w (0, false)) := by
  obtain ⟨h0, h1, h2, h3⟩ := hc
  by_cases h : n = 0
  · have hd : deep = 64 := by rcases hn with h' | h'; exact absurd h h'; exact h'
    clear hn
    subst h; subst hd
    go_enter Tryz.func34, Tryz.ntmps34
    go_wp2_with fail
    go_ret2
    exact ⟨rfl, 0, rfl⟩
  · clear hn
    go_enter Tryz.func34, Tryz.ntmps34
    go_wp2_with fail
    go_ret2
    exact ⟨rfl, 0, rfl⟩
set_option maxHeartbeats 1000000 in
theorem m_five (w : World) (b o b' o' : Nat) (left deep : Int) (s : ByteArray) (la : Option Addr) (lc : Nat) (l : List PT) (ih : ∀ p ∈ l, MeasFor p)
    (hc : CellsP w b o 5 0 s la l.length lc) (hl : 1 ≤ left) (hl' : left ≤ 65536) (hs : s.toList = []) (hd : 0 ≤ deep) (hd' : deep < 64) (hd2 : (deep == 64) = false) (hln : l.length ≤ 4398046511104)
    (hla : l ≠ [] → la = some ⟨b', o', none⟩) (hin : InPs w b' o' l) :
    Calls Tryz.prog 34 #[.pointer (some ⟨b, o, none⟩), .int .i64 left, .int .i64 deep] w (MeasP w (measL l left (deep + 1) 1)) := by
  obtain ⟨h0, h1, h2, h3⟩ := hc
  have H : Hid (∀ p ∈ l, MeasFor p) := Lib.hid ih
  have HL : Hid (l ≠ [] → la = some ⟨b', o', none⟩) := Lib.hid hla
  have HI : Hid (InPs w b' o' l) := Lib.hid hin
  clear ih hla hin
  go_enter Tryz.func34, Tryz.ntmps34
  go_wp2_with fail
  go_loopw [8, 108] (fun nv iv wr => ∃ (i : Nat) (acc : Int) (m : Nat), i ≤ l.length ∧ iv = .int .i64 i ∧ nv = .int .i64 acc ∧ wr = w.drewN m ∧ 1 ≤ acc ∧ acc ≤ left ∧ Hid (measL (l.drop i) left (deep + 1) acc = measL l left (deep + 1) 1))
    (fun _ i _ => l.length - (intOf i).toNat)
  case atStart => exact ⟨0, 1, 0, by omega, rfl, rfl, rfl, by omega, by omega, Lib.hid (by simp)⟩
  case round =>
    obtain ⟨i, acc, m, hi, rfl, rfl, rfl, ha, ha', hm⟩ := hrel
    by_cases hlt : i < l.length
    · obtain rfl := HL.out (by intro h; subst h; simp at hlt)
      have hch := H.out l[i] (List.getElem_mem hlt) (w.drewN m) b' (o' + i * 4) (left - acc) (deep + 1)
        (by rw [Nat.mul_comm]; exact InP.cong (w := w) (w' := w.drewN m) (fun _ => rfl) _ _ _ (InPs.get l b' o' i hlt HI.out)) (by omega) (by omega) (by omega)
      have hstep : measL (l.drop i) left (deep + 1) acc = if (meas l[i] (left - acc) (deep + 1)).2 then measL (l.drop (i + 1)) left (deep + 1) (acc + (meas l[i] (left - acc) (deep + 1)).1) else (0, false) := by
        rw [List.drop_eq_getElem_cons hlt, measL]
      have hbd := meas_bd l[i] (left - acc) (deep + 1)
      generalize meas l[i] (left - acc) (deep + 1) = r at hch hstep hbd
      obtain ⟨k, ok⟩ := r
      have hm' := hm.out
      clear hm
      cases ok with
      | false =>
        simp only [Bool.false_eq_true, if_false] at hstep
        rw [hstep] at hm'
        rw [← hm']
        clear hm' hstep hbd
        have HC := Lib.hid hch
        clear hch
        go_wp2_with (go_at_call 34; refine HC.out.mono ?_; rintro e w' ⟨rfl, m', rfl⟩)
        go_ret2
        exact ⟨rfl, _, rfl⟩
      | true =>
        simp only [if_true] at hstep
        rw [hstep] at hm'
        have hb := hbd rfl
        dsimp only at hb
        have hm := Lib.hid hm'
        clear hm' hstep hbd
        have HC := Lib.hid hch
        clear hch
        go_wp2_with (go_at_call 34; refine HC.out.mono ?_; rintro e w' ⟨rfl, m', rfl⟩)
        go_roundw
        case rel => exact ⟨i + 1, acc + k, m + m', by omega, by go_num, by go_num, rfl, by omega, by omega, hm⟩
        case measure => simp [intOf]; omega
    · obtain rfl : i = l.length := by omega
      have hm' := hm.out
      simp only [List.drop_length, measL] at hm'
      have HM := Lib.hid hm'
      clear hm hm'
      go_wp2_with fail
      go_ret2
      exact ⟨by rw [← HM.out]; rfl, m, rfl⟩
mutual
theorem measure_any : ∀ (p : PT), MeasFor p
  | .mk k n s l => by
    intro w b o left deep hin hl hd hd'
    have ih := measure_all l
    simp only [InP] at hin
    obtain ⟨hs, hln, la, lc, hc, hla⟩ := hin
    unfold meas
    by_cases h1 : left < 1
    · rw [if_pos (.inl h1)]; exact m_low w b o k n left deep s la _ lc hc h1
    · have hl1 : 1 ≤ left := by omega
      by_cases h2 : k ≠ 4 ∧ s.toList ≠ []
      · rw [if_pos (.inr (.inl h2))]; exact m_text w b o k n left deep s la _ lc hc hl1 h2.1 h2.2
      · by_cases h3 : k ≠ 5 ∧ 0 < l.length
        · rw [if_pos (.inr (.inr h3))]
          by_cases h4 : k = 4
          · subst h4; exact m_list4 w b o n left deep s la _ lc hc hl1 h3.2
          · exact m_list w b o k n left deep s la _ lc hc hl1 (by simpa using h3.1) (by simpa using h4) (by simpa [h4] using h2) h3.2
        · rw [if_neg (by simp only [not_or]; exact ⟨h1, h2, h3⟩)]
          by_cases e1 : k = 1
          · subst e1
            rw [if_pos rfl]
            have hl0 : l.length = 0 := by simpa using h3
            rw [hl0] at hc
            exact m_unit w b o n left deep s la lc hc hl1 (by simpa using h2)
          · rw [if_neg e1]
            by_cases e2 : k = 2
            · subst e2
              rw [if_pos rfl]
              have hl0 : l.length = 0 := by simpa using h3
              rw [hl0] at hc
              exact m_truth w b o n left deep s la lc hc hl1 (by simpa using h2)
            · rw [if_neg e2]
              by_cases e3 : k = 3
              · subst e3
                rw [if_pos rfl]
                have hl0 : l.length = 0 := by simpa using h3
                rw [hl0] at hc
                exact m_int w b o n left deep s la lc hc hl1 (by simpa using h2)
              · rw [if_neg e3]
                by_cases e4 : k = 4
                · subst e4
                  rw [if_pos rfl]
                  have hl0 : l.length = 0 := by simpa using h3
                  rw [hl0] at hc
                  exact m_str w b o n left deep s la lc hc hl1 hs
                · rw [if_neg e4]
                  have hs0 : s.toList = [] := by simpa [e4] using h2
                  by_cases e5 : k = 5
                  · subst e5
                    rw [if_pos rfl]
                    by_cases hn : n ≠ 0 ∨ deep = 64
                    · rw [if_pos hn]; exact m_five0 w b o n left deep s la _ lc hc hl1 hs0 hn
                    · rw [if_neg hn]
                      have hn0 : n = 0 := by simp only [not_or, ne_eq, Decidable.not_not] at hn; exact hn.1
                      have hd0 : deep ≠ 64 := by simp only [not_or] at hn; exact hn.2
                      subst hn0
                      by_cases hl0 : l = []
                      · subst hl0
                        exact m_five w b o 0 0 left deep s la lc [] (by simp) hc hl1 hl hs0 hd (by omega) (by simpa using hd0) (by simp) (by simp) trivial
                      · obtain ⟨b', o', e, hin⟩ := hla hl0
                        exact m_five w b o b' o' left deep s la lc l ih hc hl1 hl hs0 hd (by omega) (by simpa using hd0) hln (fun _ => e) hin
                  · rw [if_neg e5]
                    have hl0 : l.length = 0 := by simpa [e5] using h3
                    rw [hl0] at hc
                    exact m_none w b o k n left deep s la lc hc hl1 hs0 (by simpa using e1) (by simpa using e2) (by simpa using e3) (by simpa using e4) (by simpa using e5) (by simpa using e4) (by simpa using e5)
theorem measure_all : ∀ (l : List PT), ∀ p ∈ l, MeasFor p
  | [], p, h => by simp at h
  | q :: r, p, h => by
    have h1 := measure_any q
    have h2 := measure_all r
    rcases List.mem_cons.1 h with rfl | h
    · exact h1
    · exact h2 p h
end
end

section
open Go.RowKit

theorem cell_lt {w : World} {b o : Nat} {v : Value} (h : w.cell? ⟨b, o, none⟩ = some v) : b < w.heap.size := World.block_lt_of_cell? w _ h
theorem CellsP.below {w w' : World} (hb : Below w.heap.size w w') {b o : Nat} {k n : Int} {s : ByteArray} {la : Option Addr} {ln lc : Nat} (h : CellsP w b o k n s la ln lc) : CellsP w' b o k n s la ln lc := by
  have hlt := cell_lt h.1
  have e : ∀ j, w'.cell? ⟨b, j, none⟩ = w.cell? ⟨b, j, none⟩ := fun j => hb.cell (p := ⟨b, j, none⟩) hlt
  unfold CellsP at *
  rw [e, e, e, e]; exact h
mutual
theorem InP.below {w w' : World} (hb : Below w.heap.size w w') : ∀ (p : PT) (b o : Nat), InP w b o p → InP w' b o p
  | .mk k n s l, b, o, h => by
    simp only [InP] at h ⊢
    obtain ⟨h1, h2, la, lc, h3, h4⟩ := h
    refine ⟨h1, h2, la, lc, h3.below hb, fun hl => ?_⟩
    obtain ⟨b', o', h5, h6⟩ := h4 hl
    exact ⟨b', o', h5, InPs.below hb l b' o' h6⟩
theorem InPs.below {w w' : World} (hb : Below w.heap.size w w') : ∀ (l : List PT) (b o : Nat), InPs w b o l → InPs w' b o l
  | [], b, o, h => trivial
  | p :: r, b, o, h => by
    simp only [InPs] at h ⊢
    exact ⟨InP.below hb p b o h.1, InPs.below hb r b (o + 4) h.2⟩
end

theorem one_new (w : World) (v : Value) (t : TypeId) : ∀ j u, [v][j]? = some u → (w.alloc (.cells #[v] t)).cell? ((⟨w.heap.size, 0, none⟩ : Addr).add j) = some u := by
  intro j u hu
  cases j with
  | zero =>
    have : v = u := by simpa using hu
    subst this
    rw [show (⟨w.heap.size, 0, none⟩ : Addr).add 0 = ⟨w.heap.size, 0, none⟩ from by unfold Addr.add; split <;> simp_all]
    rw [cell_of_row _ _ 0 _ _ _ (heap_alloc_new w _)]
    rfl
  | succ j => simp at hu
/-- A value. -/
inductive VT where
  | unit
  | truth (b : Bool)
  | int (n : Int)
  | text (s : ByteArray)
  | list (l : List VT)
mutual
/-- A value lies there; its lists' own blocks. -/
def RepV (w : World) : VT → Value → List Nat → Prop
  | .unit, v, bs => v = .iface 89 (.agg #[]) ∧ bs = []
  | .truth b, v, bs => v = .iface 48 (.bool b) ∧ bs = []
  | .int n, v, bs => v = .iface 37 (.int .i64 n) ∧ bs = []
  | .text s, v, bs => v = .iface 90 (.string s) ∧ bs = []
  | .list l, v, bs => ∃ sv vs bl, v = .iface 46 sv ∧ w.ownsRow 0 32 1 sv l.length vs ∧ RepVs w l vs bl ∧ bs = sv.ownBlock.toList ++ bl
def RepVs (w : World) : List VT → List Value → List Nat → Prop
  | [], vs, bs => vs = [] ∧ bs = []
  | t :: r, vs, bs => ∃ v vr b br, vs = v :: vr ∧ bs = b ++ br ∧ RepV w t v b ∧ RepVs w r vr br
end
theorem ownsRow_keep {w w' : World} {base e size n : Nat} {v : Value} {xs : List Value} (h : w.ownsRow base e size v n xs) (hk : ∀ g, v.ownBlock = some g → w'.heap[g]? = w.heap[g]?) : w'.ownsRow base e size v n xs := by
  refine ⟨h.1, ?_⟩
  rcases h.2 with hn | ⟨g, cap, cur, rfl, hb, hgg, rest⟩
  · exact .inl hn
  · exact .inr ⟨g, cap, cur, rfl, hb, by rw [hk g rfl]; exact hgg, rest⟩
mutual
theorem RepV.keep {w w' : World} : ∀ (t : VT) (v : Value) (bs : List Nat), (∀ g ∈ bs, w'.heap[g]? = w.heap[g]?) → RepV w t v bs → RepV w' t v bs
  | .unit, v, bs, hk, h => h
  | .truth b, v, bs, hk, h => h
  | .int n, v, bs, hk, h => h
  | .text s, v, bs, hk, h => h
  | .list l, v, bs, hk, h => by
    obtain ⟨sv, vs, bl, h1, h2, h3, rfl⟩ := h
    exact ⟨sv, vs, bl, h1, ownsRow_keep h2 (fun g hg => hk g (by simp [hg])), RepVs.keep l vs bl (fun g hg => hk g (by simp [hg])) h3, rfl⟩
theorem RepVs.keep {w w' : World} : ∀ (l : List VT) (vs : List Value) (bs : List Nat), (∀ g ∈ bs, w'.heap[g]? = w.heap[g]?) → RepVs w l vs bs → RepVs w' l vs bs
  | [], vs, bs, hk, h => h
  | t :: r, vs, bs, hk, h => by
    obtain ⟨v, vr, b, br, h1, rfl, h3, h4⟩ := h
    exact ⟨v, vr, b, br, h1, rfl, RepV.keep t v b (fun g hg => hk g (by simp [hg])) h3, RepVs.keep r vr br (fun g hg => hk g (by simp [hg])) h4⟩
end
mutual
theorem RepV.lt {w : World} : ∀ (t : VT) (v : Value) (bs : List Nat), RepV w t v bs → ∀ g ∈ bs, g < w.heap.size
  | .unit, v, bs, h, g, hg => by rw [h.2] at hg; simp at hg
  | .truth b, v, bs, h, g, hg => by rw [h.2] at hg; simp at hg
  | .int n, v, bs, h, g, hg => by rw [h.2] at hg; simp at hg
  | .text s, v, bs, h, g, hg => by rw [h.2] at hg; simp at hg
  | .list l, v, bs, h, g, hg => by
    obtain ⟨sv, vs, bl, h1, h2, h3, rfl⟩ := h
    rcases List.mem_append.1 hg with hg | hg
    · exact (h2.lt g (by simpa using hg)).2
    · exact RepVs.lt l vs bl h3 g hg
theorem RepVs.lt {w : World} : ∀ (l : List VT) (vs : List Value) (bs : List Nat), RepVs w l vs bs → ∀ g ∈ bs, g < w.heap.size
  | [], vs, bs, h, g, hg => by rw [h.2] at hg; simp at hg
  | t :: r, vs, bs, h, g, hg => by
    obtain ⟨v, vr, b, br, h1, rfl, h3, h4⟩ := h
    rcases List.mem_append.1 hg with hg | hg
    · exact RepV.lt t v b h3 g hg
    · exact RepVs.lt r vr br h4 g hg
end
theorem RepVs.snoc {w : World} : ∀ (l : List VT) (vs : List Value) (bs : List Nat) (t : VT) (v : Value) (b : List Nat), RepVs w l vs bs → RepV w t v b → RepVs w (l ++ [t]) (vs ++ [v]) (bs ++ b)
  | [], vs, bs, t, v, b, h, ht => by
    obtain ⟨rfl, rfl⟩ := h
    exact ⟨v, [], b, [], rfl, by simp, ht, rfl, rfl⟩
  | t' :: r, vs, bs, t, v, b, h, ht => by
    obtain ⟨v', vr, b', br, rfl, rfl, h3, h4⟩ := h
    exact ⟨v', vr ++ [v], b', br ++ b, rfl, by simp, h3, RepVs.snoc r vr br t v b h4 ht⟩
theorem RepVs.length {w : World} : ∀ (l : List VT) (vs : List Value) (bs : List Nat), RepVs w l vs bs → vs.length = l.length
  | [], vs, bs, h => by rw [h.1]; rfl
  | t :: r, vs, bs, h => by
    obtain ⟨v, vr, b, br, rfl, _, _, h4⟩ := h
    simp [RepVs.length r vr br h4]
theorem RepVs.get {w : World} : ∀ (l : List VT) (vs : List Value) (bs : List Nat), RepVs w l vs bs → ∀ i (h : i < l.length), ∃ v b, vs[i]? = some v ∧ RepV w l[i] v b ∧ ∀ g ∈ b, g ∈ bs
  | t :: r, vs, bs, h, 0, hi => by
    obtain ⟨v, vr, b, br, rfl, rfl, h3, h4⟩ := h
    exact ⟨v, b, rfl, h3, fun g hg => by simp [hg]⟩
  | t :: r, vs, bs, h, i + 1, hi => by
    obtain ⟨v, vr, b, br, rfl, rfl, h3, h4⟩ := h
    obtain ⟨v', b', h5, h6, h7⟩ := RepVs.get r vr br h4 i (by simpa using hi)
    exact ⟨v', b', h5, h6, fun g hg => by simp [h7 g hg]⟩
/-- Every value bears a type. -/
theorem RepV.iface {w : World} : ∀ (t : VT) (v : Value) (bs : List Nat), RepV w t v bs → ∃ ty u, v = .iface ty u
  | .unit, v, bs, h => ⟨_, _, h.1⟩
  | .truth b, v, bs, h => ⟨_, _, h.1⟩
  | .int n, v, bs, h => ⟨_, _, h.1⟩
  | .text s, v, bs, h => ⟨_, _, h.1⟩
  | .list l, v, bs, h => by obtain ⟨sv, vs, bl, h1, _⟩ := h; exact ⟨_, _, h1⟩

mutual
/-- The value of a plain one. -/
def valOf : PT → VT
  | .mk k n s l => if k = 1 then .unit else if k = 2 then .truth (decide (n = 1)) else if k = 3 then .int n else if k = 4 then .text s else .list (valsOf l)
def valsOf : List PT → List VT
  | [] => []
  | p :: r => valOf p :: valsOf r
end
theorem valsOf_eq : ∀ l, valsOf l = l.map valOf
  | [] => rfl
  | p :: r => by simp [valsOf, valsOf_eq r]
end

section
open Go.RowKit
set_option maxRecDepth 100000
/-- Made anew: the value, its blocks, all of them new and none twice. -/
def NewV (w : World) (t : VT) (e : Ending) (w' : World) : Prop := ∃ v bs, e = .returned v ∧ RepV w' t v bs ∧ bs.Nodup ∧ (∀ g ∈ bs, w.heap.size ≤ g) ∧ Below w.heap.size w w'
def ValueFor (p : PT) : Prop := ∀ (w : World) (b o : Nat), InP w b o p → Calls Tryz.prog 27 #[.pointer (some ⟨b, o, none⟩)] w (NewV w (valOf p))
variable (w : World) (b o : Nat) (k n : Int) (s : ByteArray) (la : Option Addr) (ln lc : Nat)
theorem newV_leaf {t : VT} {v : Value} (h : RepV w t v []) : NewV w t (.returned v) w := ⟨v, [], rfl, h, by simp, by simp, Below.refl _ _⟩
set_option maxHeartbeats 1000000 in
theorem v_unit (hc : CellsP w b o 1 n s la ln lc) : Calls Tryz.prog 27 #[.pointer (some ⟨b, o, none⟩)] w (NewV w .unit) := by
  obtain ⟨h0, h1, h2, h3⟩ := hc
  go_enter Tryz.func27, Tryz.ntmps27
  go_wp2_with fail
  go_ret
  exact newV_leaf _ ⟨rfl, rfl⟩
set_option maxHeartbeats 1000000 in
theorem v_truth (hc : CellsP w b o 2 n s la ln lc) : Calls Tryz.prog 27 #[.pointer (some ⟨b, o, none⟩)] w (NewV w (.truth (decide (n = 1)))) := by
  obtain ⟨h0, h1, h2, h3⟩ := hc
  go_enter Tryz.func27, Tryz.ntmps27
  go_wp2_with fail
  go_ret
  exact newV_leaf _ ⟨rfl, rfl⟩
set_option maxHeartbeats 1000000 in
theorem v_int (hc : CellsP w b o 3 n s la ln lc) : Calls Tryz.prog 27 #[.pointer (some ⟨b, o, none⟩)] w (NewV w (.int n)) := by
  obtain ⟨h0, h1, h2, h3⟩ := hc
  go_enter Tryz.func27, Tryz.ntmps27
  go_wp2_with fail
  go_ret
  exact newV_leaf _ ⟨rfl, rfl⟩
set_option maxHeartbeats 1000000 in
theorem v_text (hc : CellsP w b o 4 n s la ln lc) : Calls Tryz.prog 27 #[.pointer (some ⟨b, o, none⟩)] w (NewV w (.text s)) := by
  obtain ⟨h0, h1, h2, h3⟩ := hc
  go_enter Tryz.func27, Tryz.ntmps27
  go_wp2_with fail
  go_ret
  exact newV_leaf _ ⟨rfl, rfl⟩
theorem info30 : (Tryz.prog.info? 32).map (fun i => (i.zero, i.size, i.bytes)) = some (some .nilIface, 1, 16) := by kernel_rfl
theorem toNat_nat (n : Nat) : (n : Int).toNat = n := rfl
set_option maxHeartbeats 1000000 in
theorem v_list (l : List PT) (b' o' : Nat) (ih : ∀ p ∈ l, ValueFor p) (hc : CellsP w b o k n s la l.length lc) (k1 : (k == 1) = false) (k2 : (k == 2) = false) (k3 : (k == 3) = false) (k4 : (k == 4) = false)
   (hln : l.length ≤ 4398046511104) (hla : l ≠ [] → la = some ⟨b', o', none⟩) (hin : InPs w b' o' l) :
   Calls Tryz.prog 27 #[.pointer (some ⟨b, o, none⟩)] w (NewV w (.list (l.map valOf))) := by
  obtain ⟨h0, h1, h2, h3⟩ := hc
  have H : Hid (∀ p ∈ l, ValueFor p) := Lib.hid ih
  have HL : Hid (l ≠ [] → la = some ⟨b', o', none⟩) := Lib.hid hla
  have HI : Hid (InPs w b' o' l) := Lib.hid hin
  have hb0 : b < w.heap.size := cell_lt h0
  clear ih hla hin
  obtain ⟨i0, hi, hz0, hz1, hz2⟩ := info_parts info30
  have HZ1 := Lib.hid hz1; clear hz1
  have HZ2 := Lib.hid hz2; clear hz2
  have HZ0 := Lib.hid hz0; clear hz0
  have HI0 := Lib.hid hi; clear hi
  go_enter Tryz.func27, Tryz.ntmps27
  go_wp2_with (at_make; refine wpList_make_own _ rfl _ _ 46 rfl w.heap.size 32 i0 .nilIface 1 Tryz.underlying46 HI0.out HZ0.out HZ1.out .i64 .i64 _ l.length rfl rfl rfl (by rw [HZ2.out]; omega) (by unfold maxLen; omega) (Nat.le_refl _) ?_; intro w0 hown0 hgrow0; have hB0 : Below w.heap.size w w0 := (Below.refl _ _).grown hgrow0 (Nat.le_refl _) (by simp); have h3' := (hB0.cell (p := ⟨b, o + 3, none⟩) hb0).trans h3)
  have HO0 := Lib.hid hown0
  clear hown0 hgrow0
  obtain ⟨N, hN⟩ : ∃ N, N = w.heap.size := ⟨_, rfl⟩
  have hNN := Lib.hid hN
  have hlt0 : N < w0.heap.size := by rw [hN]; exact (HO0.out.lt _ rfl).2
  simp only [← hN] at hb0 HO0 hB0 ⊢
  clear hN
  go_loopw [3, 46] (fun sv iv wr => ∃ (i : Nat) (vs : List Value) (bs : List Nat), i ≤ l.length ∧ iv = .int .i64 i ∧ sv = .slice (some ⟨N, 0, none⟩) i l.length ∧
      Hid (wr.ownsRow N 32 1 (.slice (some ⟨N, 0, none⟩) i l.length) i vs) ∧ Hid (RepVs wr ((l.take i).map valOf) vs bs) ∧ Hid ((N :: bs).Nodup) ∧ Hid (∀ g ∈ bs, N < g) ∧ Below N w wr ∧ N < wr.heap.size)
    (fun _ i _ => l.length - (intOf i).toNat)
  case atStart => exact ⟨0, [], [], by omega, rfl, rfl, HO0, Lib.hid ⟨rfl, rfl⟩, Lib.hid (by simp), Lib.hid (by simp), hB0, hlt0⟩
  case round =>
    obtain ⟨i, vs, bs, hil, rfl, rfl, hown, hrep, hnd, hgt, hB, hsz⟩ := hrel
    have hBw : Below w.heap.size w wr := by rw [← hNN.out]; exact hB
    have HBw := Lib.hid hBw
    clear hBw
    have h3r := (hB.cell (p := ⟨b, o + 3, none⟩) hb0).trans h3
    by_cases hlt : i < l.length
    · obtain rfl := HL.out (by intro h; subst h; simp at hlt)
      have HC := Lib.hid (H.out l[i] (List.getElem_mem hlt) wr b' (o' + i * 4) (by rw [Nat.mul_comm]; exact InP.below HBw.out _ _ _ (InPs.get l b' o' i hlt HI.out)))
      go_wp2_with fail
      refine HC.out.mono ?_
      rintro e w1 ⟨v, b1, rfl, hv, hnd1, hge1, hB1⟩
      obtain ⟨ty, u, rfl⟩ := hv.iface
      have HV := Lib.hid hv
      have HO1 : Hid (w1.ownsRow N 32 1 (.slice (some ⟨N, 0, none⟩) i l.length) i vs) := ownsRow_keep hown.out (fun g hg => by obtain rfl : N = g := (by simpa [Value.ownBlock] using hg); exact hB1.block _ hsz)
      have HR1 : Hid (RepVs w1 ((l.take i).map valOf) vs bs) := RepVs.keep _ _ _ (fun g hg => hB1.block _ (RepVs.lt _ _ _ hrep.out g hg)) hrep.out
      have HG1 := Lib.hid hge1
      have HN1 := Lib.hid hnd1
      clear hv hnd1 hge1
      go_wp2_with (at_builtin; refine wpList_append_fits _ rfl _ _ 46 rfl N 32 i0 1 Tryz.underlying46 HI0.out HZ1.out N i l.length vs rfl (HO1.out.alloc _) _ 1 1 [.iface ty u] rfl rfl (one_new _ _ _) (by simp; rfl) (by omega) ?_; intro w2 hown2 hgrow2; have HO2 := Lib.hid hown2; have HG2 := Lib.hid hgrow2; clear hown2 hgrow2)
      go_roundw
      case rel =>
        have hg := HG2.out
        have hk2 : ∀ g, g < w1.heap.size → g ≠ N → w2.heap[g]? = w1.heap[g]? := fun g hg1 hg2 => (hg.block g (by simp; omega) (by simpa using hg2)).trans (Below.heap_alloc w1 _ g hg1)
        have hge := HG1.out
        have hr2 : RepVs w2 ((l.take (i + 1)).map valOf) (vs ++ [.iface ty u]) (bs ++ b1) := by
          rw [List.take_succ_eq_append_getElem hlt, List.map_append]
          refine RepVs.snoc _ _ _ _ _ _ (RepVs.keep _ _ _ (fun g hg => hk2 g (RepVs.lt _ _ _ HR1.out g hg) (by have := hgt.out g hg; omega)) HR1.out) (RepV.keep _ _ _ (fun g hg => hk2 g (RepV.lt _ _ _ HV.out g hg) (by have := hge g hg; omega)) HV.out)
        have hnd2 : (N :: (bs ++ b1)).Nodup := by
          have h1 := hnd.out
          rw [List.nodup_cons] at h1 ⊢
          refine ⟨fun hm => ?_, List.nodup_append.2 ⟨h1.2, HN1.out, fun x hx y hy e => ?_⟩⟩
          · rcases List.mem_append.1 hm with hm | hm
            · exact h1.1 hm
            · have := hge N hm; omega
          · have h5 := RepVs.lt _ _ _ hrep.out x hx
            have h6 := hge y hy
            omega
        refine ⟨i + 1, vs ++ [.iface ty u], bs ++ b1, by omega, by go_num, rfl, HO2, Lib.hid hr2, Lib.hid hnd2, Lib.hid (fun g hg => ?_), ?_, ?_⟩
        · rcases List.mem_append.1 hg with hg | hg
          · exact hgt.out g hg
          · have := hge g hg; omega
        · exact (((hB.trans (hB1.mono (by omega))).alloc (by have := hB1.size; omega) _).grown hg (by have := hB1.size; simp; omega) (by simp))
        · have h1 := hg.size
          have := hB1.size
          simp at h1
          omega
      case measure => simp [intOf]; omega
    · obtain rfl : i = l.length := by omega
      go_wp2_with fail
      go_ret
      refine ⟨_, N :: bs, rfl, ⟨_, vs, bs, rfl, ?_, by simpa using hrep.out, rfl⟩, hnd.out, fun g hg => ?_, HBw.out⟩
      · have h1 := hown.out
        simp only [List.length_map]
        exact ⟨h1.1, h1.2.imp id fun ⟨g, cap, cur, a1, a2, a3⟩ => ⟨g, cap, cur, a1, Nat.zero_le _, a3⟩⟩
      · rw [← hNN.out]
        rcases List.mem_cons.1 hg with rfl | hg
        · exact Nat.le_refl _
        · have := hgt.out g hg; omega
mutual
theorem value_any : ∀ (p : PT), ValueFor p
  | .mk k n s l => by
    intro w b o hin
    have ih := value_all l
    simp only [InP] at hin
    obtain ⟨hs, hln, la, lc, hc, hla⟩ := hin
    unfold valOf
    by_cases h1 : k = 1
    · subst h1; rw [if_pos rfl]; exact v_unit w b o n s la _ lc hc
    · rw [if_neg h1]
      by_cases h2 : k = 2
      · subst h2; rw [if_pos rfl]; exact v_truth w b o n s la _ lc hc
      · rw [if_neg h2]
        by_cases h3 : k = 3
        · subst h3; rw [if_pos rfl]; exact v_int w b o n s la _ lc hc
        · rw [if_neg h3]
          by_cases h4 : k = 4
          · subst h4; rw [if_pos rfl]; exact v_text w b o n s la _ lc hc
          · rw [if_neg h4, valsOf_eq]
            by_cases hl0 : l = []
            · subst hl0
              exact v_list w b o k n s la lc [] 0 0 (by simp) hc (by simpa using h1) (by simpa using h2) (by simpa using h3) (by simpa using h4) (by simp) (by simp) trivial
            · obtain ⟨b', o', e, hin⟩ := hla hl0
              exact v_list w b o k n s la lc l b' o' ih hc (by simpa using h1) (by simpa using h2) (by simpa using h3) (by simpa using h4) hln (fun _ => e) hin
theorem value_all : ∀ (l : List PT), ∀ p ∈ l, ValueFor p
  | [], p, h => by simp at h
  | q :: r, p, h => by
    have h1 := value_any q
    have h2 := value_all r
    rcases List.mem_cons.1 h with rfl | h
    · exact h1
    · exact h2 p h
end
end

section
@[go_sem] theorem as90_90 (v : Value) (w : World) : (Instr.typeAssert (.iface 89 v) 32 89 true).run Tryz.prog w = .ok (.tuple #[v, .bool true]) w := by kernel_rfl
@[go_sem] theorem must90_90 (v : Value) (w : World) : (Instr.typeAssert (.iface 89 v) 32 89 false).run Tryz.prog w = .ok v w := by kernel_rfl
@[go_sem] theorem as90_63 (v : Value) (w : World) : (Instr.typeAssert (.iface 89 v) 32 48 true).run Tryz.prog w = .ok (.tuple #[.bool false, .bool false]) w := by kernel_rfl
@[go_sem] theorem as90_58 (v : Value) (w : World) : (Instr.typeAssert (.iface 89 v) 32 37 true).run Tryz.prog w = .ok (.tuple #[.int .i64 0, .bool false]) w := by kernel_rfl
@[go_sem] theorem as90_88 (v : Value) (w : World) : (Instr.typeAssert (.iface 89 v) 32 90 true).run Tryz.prog w = .ok (.tuple #[.string ⟨#[]⟩, .bool false]) w := by kernel_rfl
@[go_sem] theorem as90_61 (v : Value) (w : World) : (Instr.typeAssert (.iface 89 v) 32 46 true).run Tryz.prog w = .ok (.tuple #[.slice none 0 0, .bool false]) w := by kernel_rfl
@[go_sem] theorem as63_90 (v : Value) (w : World) : (Instr.typeAssert (.iface 48 v) 32 89 true).run Tryz.prog w = .ok (.tuple #[.agg #[], .bool false]) w := by kernel_rfl
@[go_sem] theorem as63_63 (v : Value) (w : World) : (Instr.typeAssert (.iface 48 v) 32 48 true).run Tryz.prog w = .ok (.tuple #[v, .bool true]) w := by kernel_rfl
@[go_sem] theorem must63_63 (v : Value) (w : World) : (Instr.typeAssert (.iface 48 v) 32 48 false).run Tryz.prog w = .ok v w := by kernel_rfl
@[go_sem] theorem as63_58 (v : Value) (w : World) : (Instr.typeAssert (.iface 48 v) 32 37 true).run Tryz.prog w = .ok (.tuple #[.int .i64 0, .bool false]) w := by kernel_rfl
@[go_sem] theorem as63_88 (v : Value) (w : World) : (Instr.typeAssert (.iface 48 v) 32 90 true).run Tryz.prog w = .ok (.tuple #[.string ⟨#[]⟩, .bool false]) w := by kernel_rfl
@[go_sem] theorem as63_61 (v : Value) (w : World) : (Instr.typeAssert (.iface 48 v) 32 46 true).run Tryz.prog w = .ok (.tuple #[.slice none 0 0, .bool false]) w := by kernel_rfl
@[go_sem] theorem as58_90 (v : Value) (w : World) : (Instr.typeAssert (.iface 37 v) 32 89 true).run Tryz.prog w = .ok (.tuple #[.agg #[], .bool false]) w := by kernel_rfl
@[go_sem] theorem as58_63 (v : Value) (w : World) : (Instr.typeAssert (.iface 37 v) 32 48 true).run Tryz.prog w = .ok (.tuple #[.bool false, .bool false]) w := by kernel_rfl
@[go_sem] theorem as58_58 (v : Value) (w : World) : (Instr.typeAssert (.iface 37 v) 32 37 true).run Tryz.prog w = .ok (.tuple #[v, .bool true]) w := by kernel_rfl
@[go_sem] theorem must58_58 (v : Value) (w : World) : (Instr.typeAssert (.iface 37 v) 32 37 false).run Tryz.prog w = .ok v w := by kernel_rfl
@[go_sem] theorem as58_88 (v : Value) (w : World) : (Instr.typeAssert (.iface 37 v) 32 90 true).run Tryz.prog w = .ok (.tuple #[.string ⟨#[]⟩, .bool false]) w := by kernel_rfl
@[go_sem] theorem as58_61 (v : Value) (w : World) : (Instr.typeAssert (.iface 37 v) 32 46 true).run Tryz.prog w = .ok (.tuple #[.slice none 0 0, .bool false]) w := by kernel_rfl
@[go_sem] theorem as88_90 (v : Value) (w : World) : (Instr.typeAssert (.iface 90 v) 32 89 true).run Tryz.prog w = .ok (.tuple #[.agg #[], .bool false]) w := by kernel_rfl
@[go_sem] theorem as88_63 (v : Value) (w : World) : (Instr.typeAssert (.iface 90 v) 32 48 true).run Tryz.prog w = .ok (.tuple #[.bool false, .bool false]) w := by kernel_rfl
@[go_sem] theorem as88_58 (v : Value) (w : World) : (Instr.typeAssert (.iface 90 v) 32 37 true).run Tryz.prog w = .ok (.tuple #[.int .i64 0, .bool false]) w := by kernel_rfl
@[go_sem] theorem as88_88 (v : Value) (w : World) : (Instr.typeAssert (.iface 90 v) 32 90 true).run Tryz.prog w = .ok (.tuple #[v, .bool true]) w := by kernel_rfl
@[go_sem] theorem must88_88 (v : Value) (w : World) : (Instr.typeAssert (.iface 90 v) 32 90 false).run Tryz.prog w = .ok v w := by kernel_rfl
@[go_sem] theorem as88_61 (v : Value) (w : World) : (Instr.typeAssert (.iface 90 v) 32 46 true).run Tryz.prog w = .ok (.tuple #[.slice none 0 0, .bool false]) w := by kernel_rfl
@[go_sem] theorem as61_90 (v : Value) (w : World) : (Instr.typeAssert (.iface 46 v) 32 89 true).run Tryz.prog w = .ok (.tuple #[.agg #[], .bool false]) w := by kernel_rfl
@[go_sem] theorem as61_63 (v : Value) (w : World) : (Instr.typeAssert (.iface 46 v) 32 48 true).run Tryz.prog w = .ok (.tuple #[.bool false, .bool false]) w := by kernel_rfl
@[go_sem] theorem as61_58 (v : Value) (w : World) : (Instr.typeAssert (.iface 46 v) 32 37 true).run Tryz.prog w = .ok (.tuple #[.int .i64 0, .bool false]) w := by kernel_rfl
@[go_sem] theorem as61_88 (v : Value) (w : World) : (Instr.typeAssert (.iface 46 v) 32 90 true).run Tryz.prog w = .ok (.tuple #[.string ⟨#[]⟩, .bool false]) w := by kernel_rfl
@[go_sem] theorem as61_61 (v : Value) (w : World) : (Instr.typeAssert (.iface 46 v) 32 46 true).run Tryz.prog w = .ok (.tuple #[v, .bool true]) w := by kernel_rfl
@[go_sem] theorem must61_61 (v : Value) (w : World) : (Instr.typeAssert (.iface 46 v) 32 46 false).run Tryz.prog w = .ok v w := by kernel_rfl
@[go_sem] theorem asnil_90 (w : World) : (Instr.typeAssert .nilIface 32 89 true).run Tryz.prog w = .ok (.tuple #[.agg #[], .bool false]) w := by kernel_rfl
@[go_sem] theorem asnil_63 (w : World) : (Instr.typeAssert .nilIface 32 48 true).run Tryz.prog w = .ok (.tuple #[.bool false, .bool false]) w := by kernel_rfl
@[go_sem] theorem asnil_58 (w : World) : (Instr.typeAssert .nilIface 32 37 true).run Tryz.prog w = .ok (.tuple #[.int .i64 0, .bool false]) w := by kernel_rfl
@[go_sem] theorem asnil_88 (w : World) : (Instr.typeAssert .nilIface 32 90 true).run Tryz.prog w = .ok (.tuple #[.string ⟨#[]⟩, .bool false]) w := by kernel_rfl
@[go_sem] theorem asnil_61 (w : World) : (Instr.typeAssert .nilIface 32 46 true).run Tryz.prog w = .ok (.tuple #[.slice none 0 0, .bool false]) w := by kernel_rfl
end

section
open Go.RowKit
set_option maxRecDepth 100000
def ordI (a b : Int) : Int := if a < b then -1 else if b < a then 1 else 0
def ordS (a b : ByteArray) : Int := if Op.bytesLess a.toList b.toList then -1 else if (a.toList == b.toList) then 0 else 1
def bitI (b : Bool) : Int := if b then 1 else 0
theorem ordI_lt {a b : Int} (h : a < b) : ordI a b = -1 := if_pos h
theorem ordI_gt {a b : Int} (h : b < a) : ordI a b = 1 := by unfold ordI; rw [if_neg (by omega), if_pos h]
theorem ordI_eq {a b : Int} (h : a = b) : ordI a b = 0 := by unfold ordI; rw [if_neg (by omega), if_neg (by omega)]
theorem ret_int {k : IntKind} {a b : Int} (h : a = b) : Ending.returned (.int k a) = .returned (.int k b) := by rw [h]
set_option maxHeartbeats 1000000 in
theorem order_int (w : World) (a b : Int) : Calls Tryz.prog 54 #[.int .i64 a, .int .i64 b] w fun e w' => e = .returned (.int .i64 (ordI a b)) ∧ w = w' := by
  rcases Int.lt_trichotomy a b with h | h | h
  · have H := Lib.hid (ordI_lt h)
    go_enter Tryz.func54, Tryz.ntmps54
    go_wp2_with fail
    go_ret
    exact ⟨ret_int H.out.symm, rfl⟩
  · subst h
    have H := Lib.hid (ordI_eq (rfl : a = a))
    go_enter Tryz.func54, Tryz.ntmps54
    go_wp2_with fail
    go_ret
    exact ⟨ret_int H.out.symm, rfl⟩
  · have H := Lib.hid (ordI_gt h)
    have h' : ¬ a < b := by omega
    go_enter Tryz.func54, Tryz.ntmps54
    go_wp2_with fail
    go_ret
    exact ⟨ret_int H.out.symm, rfl⟩
set_option maxHeartbeats 1000000 in
theorem order_Int (w : World) (a b : Int) : Calls Tryz.prog 57 #[.int .i64 a, .int .i64 b] w fun e w' => e = .returned (.int .i64 (ordI a b)) ∧ w = w' := by
  rcases Int.lt_trichotomy a b with h | h | h
  · have H := Lib.hid (ordI_lt h)
    go_enter Tryz.func57, Tryz.ntmps57
    go_wp2_with fail
    go_ret
    exact ⟨ret_int H.out.symm, rfl⟩
  · subst h
    have H := Lib.hid (ordI_eq (rfl : a = a))
    go_enter Tryz.func57, Tryz.ntmps57
    go_wp2_with fail
    go_ret
    exact ⟨ret_int H.out.symm, rfl⟩
  · have H := Lib.hid (ordI_gt h)
    have h' : ¬ a < b := by omega
    go_enter Tryz.func57, Tryz.ntmps57
    go_wp2_with fail
    go_ret
    exact ⟨ret_int H.out.symm, rfl⟩
set_option maxHeartbeats 1000000 in
theorem order_Text (w : World) (a b : ByteArray) : Calls Tryz.prog 58 #[.string a, .string b] w fun e w' => e = .returned (.int .i64 (ordS a b)) ∧ w = w' := by
  cases h1 : Op.bytesLess a.toList b.toList with
  | true =>
    have H : Hid (ordS a b = -1) := by show ordS a b = -1; unfold ordS; rw [if_pos h1]
    go_enter Tryz.func58, Tryz.ntmps58
    go_wp2_with fail
    go_ret
    exact ⟨ret_int H.out.symm, rfl⟩
  | false =>
    cases h2 : (a.toList == b.toList) with
    | true =>
      have H : Hid (ordS a b = 0) := by show ordS a b = 0; unfold ordS; rw [if_neg (by simp [h1]), if_pos h2]
      go_enter Tryz.func58, Tryz.ntmps58
      go_wp2_with fail
      go_ret
      exact ⟨ret_int H.out.symm, rfl⟩
    | false =>
      have H : Hid (ordS a b = 1) := by show ordS a b = 1; unfold ordS; rw [if_neg (by simp [h1]), if_neg (by simp [h2])]
      go_enter Tryz.func58, Tryz.ntmps58
      go_wp2_with fail
      go_ret
      exact ⟨ret_int H.out.symm, rfl⟩
theorem bit_any (w : World) (b : Bool) : Calls Tryz.prog 56 #[.bool b] w fun e w' => e = .returned (.int .i64 (bitI b)) ∧ w = w' := by
  cases b
  · go_enter Tryz.func56, Tryz.ntmps56
    go_wp2_with fail
    go_ret
    exact ⟨rfl, rfl⟩
  · go_enter Tryz.func56, Tryz.ntmps56
    go_wp2_with fail
    go_ret
    exact ⟨rfl, rfl⟩
def rankT (ty : TypeId) : Int := if ty = 89 then 0 else if ty = 48 then 1 else if ty = 37 then 2 else if ty = 90 then 3 else 4
set_option maxHeartbeats 1000000 in
theorem rank_90 (w : World) (u : Value) : Calls Tryz.prog 55 #[.iface 89 u] w fun e w' => e = .returned (.int .i64 0) ∧ w = w' := by
  go_enter Tryz.func55, Tryz.ntmps55
  go_wp2_with fail
  go_ret
  exact ⟨rfl, rfl⟩
set_option maxHeartbeats 1000000 in
theorem rank_63 (w : World) (u : Value) : Calls Tryz.prog 55 #[.iface 48 u] w fun e w' => e = .returned (.int .i64 1) ∧ w = w' := by
  go_enter Tryz.func55, Tryz.ntmps55
  go_wp2_with fail
  go_ret
  exact ⟨rfl, rfl⟩
set_option maxHeartbeats 1000000 in
theorem rank_58 (w : World) (u : Value) : Calls Tryz.prog 55 #[.iface 37 u] w fun e w' => e = .returned (.int .i64 2) ∧ w = w' := by
  go_enter Tryz.func55, Tryz.ntmps55
  go_wp2_with fail
  go_ret
  exact ⟨rfl, rfl⟩
set_option maxHeartbeats 1000000 in
theorem rank_88 (w : World) (u : Value) : Calls Tryz.prog 55 #[.iface 90 u] w fun e w' => e = .returned (.int .i64 3) ∧ w = w' := by
  go_enter Tryz.func55, Tryz.ntmps55
  go_wp2_with fail
  go_ret
  exact ⟨rfl, rfl⟩
set_option maxHeartbeats 1000000 in
theorem rank_61 (w : World) (u : Value) : Calls Tryz.prog 55 #[.iface 46 u] w fun e w' => e = .returned (.int .i64 4) ∧ w = w' := by
  go_enter Tryz.func55, Tryz.ntmps55
  go_wp2_with fail
  go_ret
  exact ⟨rfl, rfl⟩
def tyOf : VT → TypeId
  | .unit => 89
  | .truth _ => 48
  | .int _ => 37
  | .text _ => 90
  | .list _ => 46
def rankV : VT → Int
  | .unit => 0
  | .truth _ => 1
  | .int _ => 2
  | .text _ => 3
  | .list _ => 4
theorem RepV.ty {w : World} : ∀ (t : VT) (v : Value) (bs : List Nat), RepV w t v bs → ∃ u, v = .iface (tyOf t) u
  | .unit, v, bs, h => ⟨_, h.1⟩
  | .truth b, v, bs, h => ⟨_, h.1⟩
  | .int n, v, bs, h => ⟨_, h.1⟩
  | .text s, v, bs, h => ⟨_, h.1⟩
  | .list l, v, bs, h => by obtain ⟨sv, vs, bl, h1, _⟩ := h; exact ⟨_, h1⟩
theorem rank_any (w : World) (t : VT) (u : Value) : Calls Tryz.prog 55 #[.iface (tyOf t) u] w fun e w' => e = .returned (.int .i64 (rankV t)) ∧ w = w' := by
  cases t
  · exact rank_90 w u
  · exact rank_63 w u
  · exact rank_58 w u
  · exact rank_88 w u
  · exact rank_61 w u
end

section
open Go.RowKit
set_option maxRecDepth 100000
mutual
def cmpV : VT → VT → Int
  | .truth a, .truth b => ordI (bitI a) (bitI b)
  | .int a, .int b => ordI a b
  | .text a, .text b => ordS a b
  | .list a, .list b => cmpL a b
  | a, b => ordI (rankV a) (rankV b)
def cmpL : List VT → List VT → Int
  | [], [] => 0
  | [], _ :: _ => -1
  | _ :: _, [] => 1
  | a :: r, b :: r' => if cmpV a b ≠ 0 then cmpV a b else cmpL r r'
end
theorem cmpV_rank {a b : VT} (h : rankV a ≠ rankV b) : cmpV a b = ordI (rankV a) (rankV b) := by
  cases a <;> cases b <;> first | rfl | exact absurd rfl h
def CmpP (w : World) (r : Int) (e : Ending) (w' : World) : Prop := e = .returned (.int .i64 r) ∧ ∃ n, w' = w.drewN n
def CmpFor (a : VT) : Prop := ∀ (b : VT) (w : World) (v u : Value) (bs cs : List Nat), RepV w a v bs → RepV w b u cs → Calls Tryz.prog 35 #[v, u] w (CmpP w (cmpV a b))
theorem ordI_ne {a b : Int} (h : a ≠ b) : ordI a b ≠ 0 := by
  rcases Int.lt_or_gt_of_ne h with h | h
  · rw [ordI_lt h]; decide
  · rw [ordI_gt h]; decide
set_option maxHeartbeats 1000000 in
theorem c_rank (w : World) (a b : VT) (x y : Value) (h : rankV a ≠ rankV b) : Calls Tryz.prog 35 #[.iface (tyOf a) x, .iface (tyOf b) y] w (CmpP w (cmpV a b)) := by
  rw [cmpV_rank h]
  have hne : (ordI (rankV a) (rankV b) != 0) = true := by simpa using ordI_ne h
  clear h
  go_enter Tryz.func35, Tryz.ntmps35
  go_wp2_with fail
  refine (rank_any _ a x).mono ?_; rintro e w' ⟨rfl, rfl⟩
  go_wp2_with fail
  refine (rank_any _ b y).mono ?_; rintro e w' ⟨rfl, rfl⟩
  go_wp2_with fail
  refine (order_int _ _ _).mono ?_; rintro e w' ⟨rfl, rfl⟩
  go_wp2_with fail
  go_ret
  exact ⟨rfl, 0, rfl⟩
theorem Calls.back {P : Program} {f : FuncId} {args : Array Value} {w : World} {v : Value} (h : Calls P f args w fun e w' => e = .returned v ∧ w = w') : Calls P f args w fun e w' => e = .returned v ∧ w' = w := h.mono fun _ _ ⟨a, b⟩ => ⟨a, b.symm⟩
theorem ordI_self (a : Int) : ordI a a = 0 := ordI_eq rfl
set_option maxHeartbeats 1000000 in
theorem c_unit (w : World) : Calls Tryz.prog 35 #[.iface 89 (.agg #[]), .iface 89 (.agg #[])] w (CmpP w 0) := by
  have h0 : (ordI 0 0 != 0) = false := rfl
  go_enter Tryz.func35, Tryz.ntmps35
  go_wp2_with (first | (go_at_call 55; (with_reducible refine (rank_90 _ _).mono ?_); rintro e w' ⟨rfl, rfl⟩) | (go_at_call 54; (with_reducible refine (order_int _ _ _).mono ?_); rintro e w' ⟨rfl, rfl⟩))
  go_ret
  exact ⟨rfl, 0, rfl⟩
set_option maxHeartbeats 1000000 in
theorem c_int (w : World) (a b : Int) : Calls Tryz.prog 35 #[.iface 37 (.int .i64 a), .iface 37 (.int .i64 b)] w (CmpP w (ordI a b)) := by
  have h0 : (ordI 2 2 != 0) = false := rfl
  go_enter Tryz.func35, Tryz.ntmps35
  go_wp2_with (first | (go_at_call 55; (with_reducible refine (rank_58 _ _).mono ?_); rintro e w' ⟨rfl, rfl⟩) | (go_at_call 54; (with_reducible refine (order_int _ _ _).mono ?_); rintro e w' ⟨rfl, rfl⟩) | (go_at_call 57; (with_reducible refine (order_Int _ _ _).mono ?_); rintro e w' ⟨rfl, rfl⟩))
  go_ret
  exact ⟨rfl, 0, rfl⟩
set_option maxHeartbeats 1000000 in
theorem c_text (w : World) (a b : ByteArray) : Calls Tryz.prog 35 #[.iface 90 (.string a), .iface 90 (.string b)] w (CmpP w (ordS a b)) := by
  have h0 : (ordI 3 3 != 0) = false := rfl
  go_enter Tryz.func35, Tryz.ntmps35
  go_wp2_with (first | (go_at_call 55; (with_reducible refine (rank_88 _ _).mono ?_); rintro e w' ⟨rfl, rfl⟩) | (go_at_call 54; (with_reducible refine (order_int _ _ _).mono ?_); rintro e w' ⟨rfl, rfl⟩) | (go_at_call 58; (with_reducible refine (order_Text _ _ _).mono ?_); rintro e w' ⟨rfl, rfl⟩))
  go_ret
  exact ⟨rfl, 0, rfl⟩
set_option maxHeartbeats 1000000 in
theorem c_truth (w : World) (a b : Bool) : Calls Tryz.prog 35 #[.iface 48 (.bool a), .iface 48 (.bool b)] w (CmpP w (ordI (bitI a) (bitI b))) := by
  have h0 : (ordI 1 1 != 0) = false := rfl
  go_enter Tryz.func35, Tryz.ntmps35
  go_wp2_with (first | (go_at_call 55; (with_reducible refine (rank_63 _ _).mono ?_); rintro e w' ⟨rfl, rfl⟩) | (go_at_call 54; (with_reducible refine (order_int _ _ _).mono ?_); rintro e w' ⟨rfl, rfl⟩))
  go_quiet (first | (go_at_call 56; exact Calls.quiet_of_same (Calls.back (bit_any _ _))) | (go_at_call 54; exact Calls.quiet_of_same (Calls.back (order_int _ _ _))))
  go_wp2_with fail
  go_ret
  exact ⟨rfl, nq, rfl⟩
theorem own_cells {w : World} {sv : Value} {n : Nat} {vs : List Value} (h : w.ownsRow 0 32 1 sv n vs) : ∃ la lc, sv = .slice la n lc ∧ n ≤ 9223372036854775807 ∧ (0 < n → ∃ g, la = some ⟨g, 0, none⟩ ∧ ∀ (j : Nat) (u : Value), vs[j]? = some u → w.cell? ⟨g, j, none⟩ = some u) := by
  have hc := fun (g : Nat) (e : sv.ownBlock = some g) => h.cells e
  rcases h.2 with ⟨rfl, rfl⟩ | ⟨g, cap, cur, rfl, _, _, hn, hm, _⟩
  · exact ⟨none, 0, rfl, by omega, fun hn => by omega⟩
  · refine ⟨_, cap, rfl, by unfold maxLen at hm; omega, fun _ => ⟨g, rfl, fun j u hu => ?_⟩⟩
    have := hc g rfl j u hu
    rwa [show (⟨g, 0, none⟩ : Addr).add j = ⟨g, j, none⟩ from by unfold Addr.add; split <;> simp_all] at this
set_option maxHeartbeats 2000000 in
theorem c_list (w : World) (a b : List VT) (ih : ∀ x ∈ a, CmpFor x) (v u : Value) (bs cs : List Nat) (hv : RepV w (.list a) v bs) (hu : RepV w (.list b) u cs) : Calls Tryz.prog 35 #[v, u] w (CmpP w (cmpL a b)) := by
  obtain ⟨sv, vs, bl, rfl, ho, hr, _⟩ := hv
  obtain ⟨su, us, cl, rfl, ho', hr', _⟩ := hu
  obtain ⟨la, lc, rfl, hmx, hca⟩ := own_cells ho
  obtain ⟨la', lc', rfl, hmx', hca'⟩ := own_cells ho'
  have HI := Lib.hid ih
  have HA := Lib.hid hca
  have HB := Lib.hid hca'
  have HR := Lib.hid hr
  have HR' := Lib.hid hr'
  clear ih hca hca' hr hr' ho ho'
  have h0 : (ordI 4 4 != 0) = false := rfl
  go_enter Tryz.func35, Tryz.ntmps35
  go_wp2_with (first | (go_at_call 55; (with_reducible refine (rank_61 _ _).mono ?_); rintro e w' ⟨rfl, rfl⟩) | (go_at_call 54; (with_reducible refine (order_int _ _ _).mono ?_); rintro e w' ⟨rfl, rfl⟩))
  go_loopw [11] (fun iv wr => ∃ (i : Nat), i ≤ a.length ∧ i ≤ b.length ∧ iv = .int .i64 i ∧ Hid (∃ m, wr = w.drewN m) ∧ Hid (cmpL (a.drop i) (b.drop i) = cmpL a b))
    (fun i _ => a.length - (intOf i).toNat)
  case atStart => exact ⟨0, by omega, by omega, rfl, Lib.hid ⟨0, rfl⟩, Lib.hid (by simp)⟩
  case round =>
    obtain ⟨i, hi, hi', rfl, hw, hm⟩ := hrel
    have hcell : ∀ x, wr.cell? x = w.cell? x := by obtain ⟨m, rfl⟩ := hw.out; intro x; rfl
    have HC := Lib.hid hcell
    clear hcell
    by_cases hlt : i < a.length
    · by_cases hlt' : i < b.length
      · obtain ⟨g, rfl, hg⟩ := HA.out (by omega)
        obtain ⟨g', rfl, hg'⟩ := HB.out (by omega)
        obtain ⟨x, bx, hx, hrx, _⟩ := RepVs.get _ _ _ HR.out i hlt
        obtain ⟨y, cy, hy, hry, _⟩ := RepVs.get _ _ _ HR'.out i hlt'
        have c1 : wr.cell? ⟨g, i, none⟩ = some x := (HC.out _).trans (hg i x hx)
        have c2 : wr.cell? ⟨g', i, none⟩ = some y := (HC.out _).trans (hg' i y hy)
        have hch : ∀ n, Calls Tryz.prog 35 #[x, y] (wr.drewN n) (CmpP (wr.drewN n) (cmpV a[i] b[i])) := fun n => by
          obtain ⟨m, rfl⟩ := hw.out
          exact HI.out a[i] (List.getElem_mem hlt) b[i] _ x y bx cy (RepV.keep (w := w) _ _ _ (fun _ _ => rfl) hrx) (RepV.keep (w := w) _ _ _ (fun _ _ => rfl) hry)
        have hstep : cmpL (a.drop i) (b.drop i) = if cmpV a[i] b[i] ≠ 0 then cmpV a[i] b[i] else cmpL (a.drop (i + 1)) (b.drop (i + 1)) := by
          rw [List.drop_eq_getElem_cons hlt, List.drop_eq_getElem_cons hlt', cmpL]
        obtain ⟨tx, ux, rfl⟩ := hrx.iface
        obtain ⟨ty, uy, rfl⟩ := hry.iface
        clear hrx hry hx hy hg hg'
        have HH := Lib.hid hch
        clear hch
        generalize cmpV a[i] b[i] = r at HH hstep
        have HS := Lib.hid hstep
        clear hstep
        cases hr0 : (r != 0) with
        | true =>
          go_wp2_with fail
          go_quiet ((go_at_call 35; exact Calls.quiet_of (HH.out _)))
          go_wp2_with fail
          go_ret
          refine ⟨ret_int ?_, ?_⟩
          · rw [← hm.out, HS.out, if_pos (by simpa using hr0)]
          · obtain ⟨m, rfl⟩ := hw.out
            exact ⟨_, World.drewN_drewN w m nq⟩
        | false =>
          go_wp2_with fail
          go_quiet ((go_at_call 35; exact Calls.quiet_of (HH.out _)))
          go_wp2_with fail
          go_roundw
          case rel => 
            refine ⟨i + 1, by omega, by omega, by go_num, ?_, ?_⟩
            · obtain ⟨m, rfl⟩ := hw.out
              exact Lib.hid ⟨_, World.drewN_drewN w m nq⟩
            · refine Lib.hid ?_
              rw [← hm.out, HS.out, if_neg (by simpa using hr0)]
          case measure => simp [intOf]; omega
      · have he : cmpL a b = ordI a.length b.length := by
          have hd : b.drop i = [] := List.drop_eq_nil_iff.2 (by omega)
          rw [← hm.out, ordI_gt (by omega), List.drop_eq_getElem_cons hlt, hd, cmpL]
        have HE := Lib.hid he
        clear he
        go_wp2_with (go_at_call 54; (with_reducible refine (order_int _ _ _).mono ?_); rintro e w' ⟨rfl, rfl⟩)
        go_ret
        exact ⟨ret_int HE.out.symm, hw.out⟩
    · have he : cmpL a b = ordI a.length b.length := by
        have hd : a.drop i = [] := List.drop_eq_nil_iff.2 (by omega)
        rw [← hm.out, hd]
        by_cases hlt' : i < b.length
        · rw [ordI_lt (by omega), List.drop_eq_getElem_cons hlt', cmpL]
        · have hd' : b.drop i = [] := List.drop_eq_nil_iff.2 (by omega)
          rw [ordI_eq (by omega), hd', cmpL]
      have HE := Lib.hid he
      clear he
      go_wp2_with (go_at_call 54; (with_reducible refine (order_int _ _ _).mono ?_); rintro e w' ⟨rfl, rfl⟩)
      go_ret
      exact ⟨ret_int HE.out.symm, hw.out⟩
mutual
theorem compare_any : ∀ (a : VT), CmpFor a
  | .unit => by
    intro b w v u bs cs hv hu
    obtain ⟨x, rfl⟩ := RepV.ty _ _ _ hv
    obtain ⟨y, rfl⟩ := RepV.ty _ _ _ hu
    by_cases h : rankV (.unit) = rankV b
    · cases b with
      | unit =>
        obtain ⟨e, _⟩ := hv; cases e; obtain ⟨e, _⟩ := hu; cases e
        exact c_unit w
      | _ => simp [rankV] at h
    · exact c_rank w _ _ x y h
  | .truth p => by
    intro b w v u bs cs hv hu
    obtain ⟨x, rfl⟩ := RepV.ty _ _ _ hv
    obtain ⟨y, rfl⟩ := RepV.ty _ _ _ hu
    by_cases h : rankV (.truth p) = rankV b
    · cases b with
      | truth q =>
        obtain ⟨e, _⟩ := hv; cases e; obtain ⟨e, _⟩ := hu; cases e
        exact c_truth w _ _
      | _ => simp [rankV] at h
    · exact c_rank w _ _ x y h
  | .int p => by
    intro b w v u bs cs hv hu
    obtain ⟨x, rfl⟩ := RepV.ty _ _ _ hv
    obtain ⟨y, rfl⟩ := RepV.ty _ _ _ hu
    by_cases h : rankV (.int p) = rankV b
    · cases b with
      | int q =>
        obtain ⟨e, _⟩ := hv; cases e; obtain ⟨e, _⟩ := hu; cases e
        exact c_int w _ _
      | _ => simp [rankV] at h
    · exact c_rank w _ _ x y h
  | .text p => by
    intro b w v u bs cs hv hu
    obtain ⟨x, rfl⟩ := RepV.ty _ _ _ hv
    obtain ⟨y, rfl⟩ := RepV.ty _ _ _ hu
    by_cases h : rankV (.text p) = rankV b
    · cases b with
      | text q =>
        obtain ⟨e, _⟩ := hv; cases e; obtain ⟨e, _⟩ := hu; cases e
        exact c_text w _ _
      | _ => simp [rankV] at h
    · exact c_rank w _ _ x y h
  | .list p => by
    have ih := compare_all p
    intro b w v u bs cs hv hu
    by_cases h : rankV (.list p) = rankV b
    · cases b with
      | list q => exact c_list w p q ih v u bs cs hv hu
      | _ => simp [rankV] at h
    · obtain ⟨x, rfl⟩ := RepV.ty _ _ _ hv
      obtain ⟨y, rfl⟩ := RepV.ty _ _ _ hu
      exact c_rank w _ _ x y h
theorem compare_all : ∀ (l : List VT), ∀ p ∈ l, CmpFor p
  | [], p, h => by simp at h
  | q :: r, p, h => by
    have h1 := compare_any q
    have h2 := compare_all r
    rcases List.mem_cons.1 h with rfl | h
    · exact h1
    · exact h2 p h
end
end

section
open Go.RowKit
set_option maxRecDepth 100000
/-- A plain value handed in by value. -/
def ArgP (w : World) : PT → Value → Prop
  | .mk k n s l, v => s.size ≤ 140737488355328 ∧ l.length ≤ 4398046511104 ∧ ∃ la lc, v = .agg #[.int .i64 k, .int .i64 n, .string s, .slice la l.length lc] ∧ (l ≠ [] → ∃ b' o', la = some ⟨b', o', none⟩ ∧ InPs w b' o' l)
theorem ArgP.below {w w' : World} (hb : Below w.heap.size w w') {p : PT} {v : Value} (h : ArgP w p v) : ArgP w' p v := by
  cases p with
  | mk k n s l =>
    obtain ⟨h1, h2, la, lc, rfl, h4⟩ := h
    refine ⟨h1, h2, la, lc, rfl, fun hl => ?_⟩
    obtain ⟨b', o', e, hin⟩ := h4 hl
    exact ⟨b', o', e, InPs.below hb _ _ _ hin⟩
theorem InP.arg {w : World} {b o : Nat} {k n : Int} {s : ByteArray} {l : List PT} {la : Option Addr} {lc : Nat} (hs : s.size ≤ 140737488355328) (hl : l.length ≤ 4398046511104)
    (hc : CellsP w b o k n s la l.length lc) (h : l ≠ [] → ∃ b' o', la = some ⟨b', o', none⟩ ∧ InPs w b' o' l) : InP w b o (.mk k n s l) := ⟨hs, hl, la, lc, hc, h⟩
theorem cells_new (w : World) (a b c d : Value) (t : TypeId) : (w.alloc (.cells #[a, b, c, d] t)).cell? ⟨w.heap.size, 0, none⟩ = some a ∧ (w.alloc (.cells #[a, b, c, d] t)).cell? ⟨w.heap.size, 0 + 1, none⟩ = some b ∧
    (w.alloc (.cells #[a, b, c, d] t)).cell? ⟨w.heap.size, 0 + 2, none⟩ = some c ∧ (w.alloc (.cells #[a, b, c, d] t)).cell? ⟨w.heap.size, 0 + 3, none⟩ = some d := by
  have h := fun j => cell_of_row (w.alloc (.cells #[a, b, c, d] t)) w.heap.size j _ _ _ (heap_alloc_new w (.cells #[a, b, c, d] t))
  rw [h, h, h, h]
  exact ⟨rfl, rfl, rfl, rfl⟩
theorem alloc_below (w : World) (o : Obj) : Below w.heap.size w (w.alloc o) := (Below.refl _ _).alloc (Nat.le_refl _) _
theorem boxed {w : World} {k n : Int} {s : ByteArray} {l : List PT} {la : Option Addr} {lc : Nat} (hs : s.size ≤ 140737488355328) (hl : l.length ≤ 4398046511104)
    (h : l ≠ [] → ∃ b' o', la = some ⟨b', o', none⟩ ∧ InPs w b' o' l) : InP (w.alloc (.cells #[.int .i64 k, .int .i64 n, .string s, .slice la l.length lc] 27)) w.heap.size 0 (.mk k n s l) := by
  refine InP.arg hs hl (cells_new w _ _ _ _ _) fun hn => ?_
  obtain ⟨b', o', e, hin⟩ := h hn
  exact ⟨b', o', e, InPs.below (alloc_below w _) _ _ _ hin⟩
def mayP (p : PT) : Bool := (meas p 65536 0).2
def sizeP (p : PT) : Int := if mayP p then (meas p 65536 0).1 else 0
theorem drewN_below (w : World) (n : Nat) : Below w.heap.size w (w.drewN n) := ⟨rfl, rfl, rfl, Nat.le_refl _, fun _ _ => rfl⟩
def RetB (w : World) (v : Value) (e : Ending) (w' : World) : Prop := e = .returned v ∧ Below w.heap.size w w'
set_option maxHeartbeats 1000000 in
theorem may_any (p : PT) (w : World) (v : Value) (h : ArgP w p v) : Calls Tryz.prog 15 #[v] w (RetB w (.bool (mayP p))) := by
  cases p with
  | mk k n s l =>
    obtain ⟨hs, hl, la, lc, rfl, hin⟩ := h
    have HM := Lib.hid (measure_any (.mk k n s l) (w.alloc (.cells #[.int .i64 k, .int .i64 n, .string s, .slice la l.length lc] 27)) w.heap.size 0 65536 0 (boxed hs hl hin) (by omega) (by omega) (by omega))
    have HR : Hid (mayP (.mk k n s l) = (meas (.mk k n s l) 65536 0).2) := Lib.hid rfl
    generalize meas (.mk k n s l) 65536 0 = r at HM HR
    rw [HR.out]
    clear HR hin
    go_enter Tryz.func15, Tryz.ntmps15
    go_wp2_with fail
    refine HM.out.mono ?_
    rintro e w' ⟨rfl, m, rfl⟩
    go_wp2_with fail
    go_ret
    exact ⟨rfl, (alloc_below w _).trans ((drewN_below _ _).mono (by simp))⟩
set_option maxHeartbeats 1000000 in
theorem size_any (p : PT) (w : World) (v : Value) (h : ArgP w p v) : Calls Tryz.prog 12 #[v] w (RetB w (.int .i64 (sizeP p))) := by
  cases p with
  | mk k n s l =>
    obtain ⟨hs, hl, la, lc, rfl, hin⟩ := h
    have HM := Lib.hid (measure_any (.mk k n s l) (w.alloc (.cells #[.int .i64 k, .int .i64 n, .string s, .slice la l.length lc] 27)) w.heap.size 0 65536 0 (boxed hs hl hin) (by omega) (by omega) (by omega))
    have HR : Hid (sizeP (.mk k n s l) = if (meas (.mk k n s l) 65536 0).2 then (meas (.mk k n s l) 65536 0).1 else 0) := Lib.hid rfl
    generalize meas (.mk k n s l) 65536 0 = r at HM HR
    rw [HR.out]
    clear HR hin
    obtain ⟨x, ok⟩ := r
    cases ok
    · go_enter Tryz.func12, Tryz.ntmps12
      go_wp2_with fail
      refine HM.out.mono ?_
      rintro e w' ⟨rfl, m, rfl⟩
      go_wp2_with fail
      go_ret
      exact ⟨rfl, (alloc_below w _).trans ((drewN_below _ _).mono (by simp))⟩
    · go_enter Tryz.func12, Tryz.ntmps12
      go_wp2_with fail
      refine HM.out.mono ?_
      rintro e w' ⟨rfl, m, rfl⟩
      go_wp2_with fail
      go_ret
      exact ⟨rfl, (alloc_below w _).trans ((drewN_below _ _).mono (by simp))⟩
end

section
open Go.RowKit
set_option maxRecDepth 100000
def sameP (p q : PT) : Bool := mayP p && (mayP q && (cmpV (valOf p) (valOf q) == 0))
def compP (p q : PT) : Int := if mayP p then (if mayP q then cmpV (valOf p) (valOf q) else -1) else if mayP q then 1 else 0
theorem arg_box {w w' : World} {k n : Int} {s : ByteArray} {l : List PT} {la : Option Addr} {lc : Nat} (h : ArgP w (.mk k n s l) (.agg #[.int .i64 k, .int .i64 n, .string s, .slice la l.length lc])) {b : Nat}
    (hb : Below w.heap.size w w') (hc : CellsP w' b 0 k n s la l.length lc) : InP w' b 0 (.mk k n s l) := by
  obtain ⟨hs, hl, la', lc', e, hin⟩ := h
  simp only [Value.agg.injEq, Array.mk.injEq, List.cons.injEq, Value.slice.injEq, and_true, true_and] at e
  obtain ⟨rfl, _, rfl⟩ := e
  refine InP.arg hs hl hc fun hn => ?_
  obtain ⟨b', o', e, hin⟩ := hin hn
  exact ⟨b', o', e, InPs.below hb _ _ _ hin⟩
theorem CellsP.later {w w' : World} (hb : Below w.heap.size w w') {b o : Nat} {k n : Int} {s : ByteArray} {la : Option Addr} {ln lc : Nat} (h : CellsP w b o k n s la ln lc) : CellsP w' b o k n s la ln lc := h.below hb
theorem arg_in {w W w' : World} {p : PT} {v : Value} (h : ArgP w p v) (hB0 : Below w.heap.size w W) (hw : Below W.heap.size W w') : ArgP w' p v := h.below (hB0.trans (hw.mono hB0.size))
theorem cell_step {w w' : World} {b o : Nat} {v : Value} (h : w.cell? ⟨b, o, none⟩ = some v) (hb : Below w.heap.size w w') : w'.cell? ⟨b, o, none⟩ = some v := by
  rw [hb.cell (p := ⟨b, o, none⟩) (cell_lt h)]; exact h
theorem below_step {W w w' : World} (h : Below W.heap.size W w) (hb : Below w.heap.size w w') : Below W.heap.size W w' := h.trans (hb.mono h.size)
theorem step9 {W w w' : World} {b b' : Nat} {v0 v1 v2 v3 u0 u1 u2 u3 : Value} (h : w.cell? ⟨b, 0, none⟩ = some v0 ∧ w.cell? ⟨b, 1, none⟩ = some v1 ∧ w.cell? ⟨b, 2, none⟩ = some v2 ∧ w.cell? ⟨b, 3, none⟩ = some v3 ∧ w.cell? ⟨b', 0, none⟩ = some u0 ∧ w.cell? ⟨b', 1, none⟩ = some u1 ∧ w.cell? ⟨b', 2, none⟩ = some u2 ∧ w.cell? ⟨b', 3, none⟩ = some u3 ∧ Below W.heap.size W w) (hb : Below w.heap.size w w') :
    w'.cell? ⟨b, 0, none⟩ = some v0 ∧ w'.cell? ⟨b, 1, none⟩ = some v1 ∧ w'.cell? ⟨b, 2, none⟩ = some v2 ∧ w'.cell? ⟨b, 3, none⟩ = some v3 ∧ w'.cell? ⟨b', 0, none⟩ = some u0 ∧ w'.cell? ⟨b', 1, none⟩ = some u1 ∧ w'.cell? ⟨b', 2, none⟩ = some u2 ∧ w'.cell? ⟨b', 3, none⟩ = some u3 ∧ Below W.heap.size W w' := by
  obtain ⟨h0, h1, h2, h3, h4, h5, h6, h7, h8⟩ := h
  exact ⟨cell_step h0 hb, cell_step h1 hb, cell_step h2 hb, cell_step h3 hb, cell_step h4 hb, cell_step h5 hb, cell_step h6 hb, cell_step h7 hb, below_step h8 hb⟩
theorem and9 {a1 a2 a3 a4 a5 a6 a7 a8 b : Prop} (h : a1 ∧ a2 ∧ a3 ∧ a4 ∧ a5 ∧ a6 ∧ a7 ∧ a8 ∧ b) : b := h.2.2.2.2.2.2.2.2
theorem bcell {W w1 : World} (hb : Below W.heap.size W w1) : (∀ b o, b < W.heap.size → w1.cell? ⟨b, o, none⟩ = W.cell? ⟨b, o, none⟩) ∧ (∀ b o, b < W.heap.size → w1.frozen? ⟨b, o, none⟩ = W.frozen? ⟨b, o, none⟩) :=
  ⟨fun b o h => hb.cell (p := ⟨b, o, none⟩) h, fun b o h => hb.frozen (p := ⟨b, o, none⟩) h⟩
set_option maxHeartbeats 2000000 in
theorem compare_walk (p q : PT) (w : World) (v u : Value) (hv : ArgP w p v) (hu : ArgP w q u) : Calls Tryz.prog 13 #[v, u] w (RetB w (.int .i64 (compP p q))) := by
  cases p with
  | mk k n s l =>
  cases q with
  | mk k' n' s' l' =>
    have hv2 := hv
    have hu2 := hu
    obtain ⟨_, _, la, lc, rfl, _⟩ := hv2
    obtain ⟨_, _, la', lc', rfl, _⟩ := hu2
    have HV := Lib.hid hv
    have HU := Lib.hid hu
    clear hv hu
    go_enter Tryz.func13, Tryz.ntmps13
    go_wp2_with fail
    have hc0 := cells_new w (.int .i64 k) (.int .i64 n) (.string s) (.slice la l.length lc) 27
    have hd0 := cells_new (w.alloc (.cells #[.int .i64 k, .int .i64 n, .string s, .slice la l.length lc] 27)) (.int .i64 k') (.int .i64 n') (.string s') (.slice la' l'.length lc') 27
    have hB0 : Below w.heap.size w ((w.alloc (.cells #[.int .i64 k, .int .i64 n, .string s, .slice la l.length lc] 27)).alloc (.cells #[.int .i64 k', .int .i64 n', .string s', .slice la' l'.length lc'] 27)) := (alloc_below w _).alloc (by simp) _
    have hs0 : ((w.alloc (.cells #[.int .i64 k, .int .i64 n, .string s, .slice la l.length lc] 27)).alloc (.cells #[.int .i64 k', .int .i64 n', .string s', .slice la' l'.length lc'] 27)).heap.size = w.heap.size + 2 := by simp
    have hc1 : CellsP ((w.alloc (.cells #[.int .i64 k, .int .i64 n, .string s, .slice la l.length lc] 27)).alloc (.cells #[.int .i64 k', .int .i64 n', .string s', .slice la' l'.length lc'] 27)) w.heap.size 0 k n s la l.length lc := CellsP.below (alloc_below _ _) hc0
    clear hc0
    rw [show (w.alloc (.cells #[.int .i64 k, .int .i64 n, .string s, .slice la l.length lc] 27)).heap.size = w.heap.size + 1 from by simp] at hd0
    generalize ((w.alloc (.cells #[.int .i64 k, .int .i64 n, .string s, .slice la l.length lc] 27)).alloc (.cells #[.int .i64 k', .int .i64 n', .string s', .slice la' l'.length lc'] 27)) = W at hc1 hd0 hB0 hs0 ⊢
    obtain ⟨c0, c1, c2, c3⟩ := hc1
    obtain ⟨d0, d1, d2, d3⟩ := hd0
    obtain ⟨N, hN⟩ : ∃ N, N = w.heap.size := ⟨_, rfl⟩
    simp only [← hN, Nat.zero_add] at c0 c1 c2 c3 d0 d1 d2 d3 hs0 ⊢
    have HN := Lib.hid hN
    have HS := Lib.hid hs0
    clear hN hs0
    have hBd : Below W.heap.size W W.drew := (Below.refl _ _).drew
    go_region_held3 (fun w' => w'.cell? ⟨N, 0, none⟩ = some (.int .i64 k) ∧ w'.cell? ⟨N, 1, none⟩ = some (.int .i64 n) ∧ w'.cell? ⟨N, 2, none⟩ = some (.string s) ∧ w'.cell? ⟨N, 3, none⟩ = some (.slice la l.length lc) ∧
        w'.cell? ⟨N + 1, 0, none⟩ = some (.int .i64 k') ∧ w'.cell? ⟨N + 1, 1, none⟩ = some (.int .i64 n') ∧ w'.cell? ⟨N + 1, 2, none⟩ = some (.string s') ∧ w'.cell? ⟨N + 1, 3, none⟩ = some (.slice la' l'.length lc') ∧ Below W.heap.size W w')
      (first | exact ⟨c0, c1, c2, c3, d0, d1, d2, d3, (Below.refl _ _).drew⟩ | exact step9 (w := W.drew) ⟨c0, c1, c2, c3, d0, d1, d2, d3, hBd⟩ hb | (refine step9 ?_ hb; assumption) | assumption)
      (first
      | (go_at_call 15; ((with_reducible refine (may_any _ _ _ (arg_in HV.out hB0 ?_)).mono ?_); (first | assumption | (apply and9; assumption)); rintro e w1 ⟨rfl, hb⟩))
      | (go_at_call 15; ((with_reducible refine (may_any _ _ _ (arg_in HU.out hB0 ?_)).mono ?_); (first | assumption | (apply and9; assumption)); rintro e w1 ⟨rfl, hb⟩)))
    rename_i hS
    obtain ⟨e0, e1, e2, e3, f0, f1, f2, f3, hW1⟩ := hS
    have hBw := hB0.trans (hW1.mono hB0.size)
    have H1 := Lib.hid (arg_box HV.out hBw ⟨e0, e1, e2, e3⟩)
    have H2 := Lib.hid (arg_box HU.out hBw ⟨f0, f1, f2, f3⟩)
    have HE : Hid (compP (.mk k n s l) (.mk k' n' s' l') = if mayP (.mk k n s l) then (if mayP (.mk k' n' s' l') then cmpV (valOf (.mk k n s l)) (valOf (.mk k' n' s' l')) else -1) else if mayP (.mk k' n' s' l') then 1 else 0) := Lib.hid rfl
    rename_i w1 _
    clear hb
    clear e0 e1 e2 e3 f0 f1 f2 f3 c0 c1 c2 c3 d0 d1 d2 d3 hBd
    cases hp : mayP (.mk k n s l) <;> cases hq : mayP (.mk k' n' s' l')
    · rw [hp, hq] at HE
      have HP := Lib.hid hp
      have HQ := Lib.hid hq
      clear hp hq
      go_wp2_with fail
      go_ret
      exact ⟨ret_int HE.out.symm, hBw⟩
    · rw [hp, hq] at HE
      clear hp hq
      go_wp2_with fail
      go_ret
      exact ⟨ret_int HE.out.symm, hBw⟩
    · rw [hp, hq] at HE
      clear hp hq
      go_wp2_with fail
      go_ret
      exact ⟨ret_int HE.out.symm, hBw⟩
    · rw [hp, hq] at HE
      clear hp hq
      go_wp2_with fail
      refine (value_any _ _ _ _ H1.out).mono ?_
      rintro e w2 ⟨x, bs, rfl, hx, hnd, hge, hb2⟩
      have HX := Lib.hid hx
      clear hx hnd hge
      go_wp2_with fail
      refine (value_any _ _ _ _ (InP.below hb2 _ _ _ H2.out)).mono ?_
      rintro e w3 ⟨y, cs, rfl, hy, hnd, hge, hb3⟩
      have HY := Lib.hid hy
      clear hy hnd hge
      go_wp2_with fail
      refine (compare_any _ _ _ _ _ _ _ (RepV.keep _ _ _ (fun g hg => hb3.block g (RepV.lt _ _ _ HX.out g hg)) HX.out) HY.out).mono ?_
      rintro e w4 ⟨rfl, m, rfl⟩
      go_wp2_with fail
      go_ret
      exact ⟨ret_int HE.out.symm, ((hBw.trans (hb2.mono hBw.size)).trans (hb3.mono (Nat.le_trans hBw.size hb2.size))).trans ⟨rfl, rfl, rfl, Nat.le_refl _, fun _ _ => rfl⟩⟩
end

section
open Go.RowKit
set_option maxRecDepth 100000
def EqFor (p : PT) : Prop := ∀ (w : World) (v u : Value), ArgP w p v → ArgP w p u → Calls Tryz.prog 38 #[v, u] w (RetB w (.bool true))
theorem arg_of_in {w : World} {b o : Nat} {p : PT} (h : InP w b o p) : ∃ k n s la lc, ∃ l : List PT, p = .mk k n s l ∧ CellsP w b o k n s la l.length lc ∧ ArgP w p (.agg #[.int .i64 k, .int .i64 n, .string s, .slice la l.length lc]) := by
  cases p with
  | mk k n s l =>
    obtain ⟨h1, h2, la, lc, h3, h4⟩ := h
    exact ⟨k, n, s, la, lc, l, rfl, h3, h1, h2, la, lc, rfl, h4⟩
theorem cell_stepA {w w' : World} {a : Addr} {v : Value} (h : w.cell? a = some v) (hb : Below w.heap.size w w') : w'.cell? a = some v := (hb.cell (World.block_lt_of_cell? w a h)).trans h
theorem stepc10 {W w w' : World} {a0 a1 a2 a3 a4 a5 a6 a7 a8 a9 : Addr} {v0 v1 v2 v3 v4 v5 v6 v7 v8 v9 : Value} (h : w.cell? a0 = some v0 ∧ w.cell? a1 = some v1 ∧ w.cell? a2 = some v2 ∧ w.cell? a3 = some v3 ∧ w.cell? a4 = some v4 ∧ w.cell? a5 = some v5 ∧ w.cell? a6 = some v6 ∧ w.cell? a7 = some v7 ∧ w.cell? a8 = some v8 ∧ w.cell? a9 = some v9 ∧ Below W.heap.size W w) (hb : Below w.heap.size w w') :
    w'.cell? a0 = some v0 ∧ w'.cell? a1 = some v1 ∧ w'.cell? a2 = some v2 ∧ w'.cell? a3 = some v3 ∧ w'.cell? a4 = some v4 ∧ w'.cell? a5 = some v5 ∧ w'.cell? a6 = some v6 ∧ w'.cell? a7 = some v7 ∧ w'.cell? a8 = some v8 ∧ w'.cell? a9 = some v9 ∧ Below W.heap.size W w' := by
  obtain ⟨h0, h1, h2, h3, h4, h5, h6, h7, h8, h9, h'⟩ := h
  exact ⟨cell_stepA h0 hb, cell_stepA h1 hb, cell_stepA h2 hb, cell_stepA h3 hb, cell_stepA h4 hb, cell_stepA h5 hb, cell_stepA h6 hb, cell_stepA h7 hb, cell_stepA h8 hb, cell_stepA h9 hb, below_step h' hb⟩
theorem and11 {a1 a2 a3 a4 a5 a6 a7 a8 a9 a10 b : Prop} (h : a1 ∧ a2 ∧ a3 ∧ a4 ∧ a5 ∧ a6 ∧ a7 ∧ a8 ∧ a9 ∧ a10 ∧ b) : b := h.2.2.2.2.2.2.2.2.2.2
set_option maxHeartbeats 4000000 in
theorem eq_step (k n : Int) (s : ByteArray) (l : List PT) (ih : ∀ p ∈ l, EqFor p) : EqFor (.mk k n s l) := by
  intro w v u hv hu
  have g := hv
  have g' := hu
  obtain ⟨_, hln, la, lc, rfl, hla⟩ := g
  obtain ⟨_, _, la', lc', rfl, hla'⟩ := g'
  have H := Lib.hid ih
  have HA := Lib.hid hla
  have HA' := Lib.hid hla'
  clear hv hu ih hla hla'
  go_enter Tryz.func38, Tryz.ntmps38
  go_wp2_with fail
  have hd0 : ((w.alloc (.cells #[.int .i64 k, .int .i64 n, .string s, .slice la l.length lc] 27)).alloc (.cells #[.int .i64 k, .int .i64 n, .string s, .slice la' l.length lc'] 27)).cell? ⟨w.heap.size + 1, 3, none⟩ = some (.slice la' l.length lc') := by
    simp
  have hB0 : Below w.heap.size w ((w.alloc (.cells #[.int .i64 k, .int .i64 n, .string s, .slice la l.length lc] 27)).alloc (.cells #[.int .i64 k, .int .i64 n, .string s, .slice la' l.length lc'] 27)) := (alloc_below w _).alloc (by simp) _
  have hc0 : ((w.alloc (.cells #[.int .i64 k, .int .i64 n, .string s, .slice la l.length lc] 27)).alloc (.cells #[.int .i64 k, .int .i64 n, .string s, .slice la' l.length lc'] 27)).cell? ⟨w.heap.size, 3, none⟩ = some (.slice la l.length lc) :=
    (CellsP.below (alloc_below _ _) (cells_new w (.int .i64 k) (.int .i64 n) (.string s) (.slice la l.length lc) 27) : CellsP _ _ _ _ _ _ _ _ _).2.2.2
  generalize ((w.alloc (.cells #[.int .i64 k, .int .i64 n, .string s, .slice la l.length lc] 27)).alloc (.cells #[.int .i64 k, .int .i64 n, .string s, .slice la' l.length lc'] 27)) = W at hc0 hd0 hB0 ⊢
  obtain ⟨N, hN⟩ : ∃ N, N = w.heap.size := ⟨_, rfl⟩
  simp only [← hN] at hc0 hd0 ⊢
  have HN := Lib.hid hN
  clear hN
  have HB0 := Lib.hid hB0
  clear hB0
  go_loopw [5] (fun iv wr => ∃ (i : Nat), i ≤ l.length ∧ iv = .int .i64 i ∧ Below W.heap.size W wr)
    (fun i _ => l.length - (intOf i).toNat)
  case atStart => exact ⟨0, by omega, rfl, Below.refl _ _⟩
  case round =>
    obtain ⟨i, hi, rfl, hB⟩ := hrel
    have c3 := cell_step hc0 hB
    have d3 := cell_step hd0 hB
    by_cases hlt : i < l.length
    · obtain ⟨b', o', rfl, hin⟩ := HA.out (by intro h; subst h; simp at hlt)
      obtain ⟨b'', o'', rfl, hin'⟩ := HA'.out (by intro h; subst h; simp at hlt)
      have hBw := HB0.out.trans (hB.mono HB0.out.size)
      have hp := InPs.get l b' o' i hlt (InPs.below hBw _ _ _ hin)
      have hq := InPs.get l b'' o'' i hlt (InPs.below hBw _ _ _ hin')
      rw [Nat.mul_comm] at hp hq
      have HE : Hid (∀ (w : World) (v u : Value), ArgP w l[i] v → ArgP w l[i] u → Calls Tryz.prog 38 #[v, u] w (RetB w (.bool true))) := Lib.hid (H.out l[i] (List.getElem_mem hlt))
      obtain ⟨k1, n1, s1, la1, lc1, l1, e1, ⟨x0, x1, x2, x3⟩, ha1⟩ := arg_of_in hp
      obtain ⟨k2, n2, s2, la2, lc2, l2, e2, ⟨y0, y1, y2, y3⟩, ha2⟩ := arg_of_in hq
      rw [e1] at e2
      simp only [PT.mk.injEq] at e2
      obtain ⟨rfl, rfl, rfl, rfl⟩ := e2
      rw [e1] at HE ha1 ha2
      have HX := Lib.hid ha1
      have HY := Lib.hid ha2
      clear ha1 ha2 hp hq hin hin' e1
      have hBd : Below wr.heap.size wr wr.drew := (Below.refl _ _).drew
      go_wp2_with fail
      go_region_held3 (fun w' => w'.cell? ⟨N, 3, none⟩ = some (.slice (some ⟨b', o', none⟩) l.length lc) ∧ w'.cell? ⟨N + 1, 3, none⟩ = some (.slice (some ⟨b'', o'', none⟩) l.length lc') ∧
          w'.cell? ⟨b', o' + i * 4, none⟩ = some (.int .i64 k1) ∧ w'.cell? ⟨b', o' + i * 4 + 1, none⟩ = some (.int .i64 n1) ∧ w'.cell? ⟨b', o' + i * 4 + 2, none⟩ = some (.string s1) ∧ w'.cell? ⟨b', o' + i * 4 + 3, none⟩ = some (.slice la1 l1.length lc1) ∧
          w'.cell? ⟨b'', o'' + i * 4, none⟩ = some (.int .i64 k1) ∧ w'.cell? ⟨b'', o'' + i * 4 + 1, none⟩ = some (.int .i64 n1) ∧ w'.cell? ⟨b'', o'' + i * 4 + 2, none⟩ = some (.string s1) ∧ w'.cell? ⟨b'', o'' + i * 4 + 3, none⟩ = some (.slice la2 l1.length lc2) ∧ Below wr.heap.size wr w')
        (first | exact ⟨c3, d3, x0, x1, x2, x3, y0, y1, y2, y3, hBd⟩ | exact stepc10 (w := wr.drew) ⟨c3, d3, x0, x1, x2, x3, y0, y1, y2, y3, hBd⟩ hb | (refine stepc10 ?_ hb; assumption) | assumption)
        (first
        | (go_at_call 38; ((with_reducible refine (HE.out _ _ _ (ArgP.below ?_ HX.out) (ArgP.below ?_ HY.out)).mono ?_); (first | assumption | (apply and11; assumption)); (first | assumption | (apply and11; assumption)); rintro e w1 ⟨rfl, hb⟩)))
      rename_i hS
      have hBS := and11 hS
      clear hS
      go_wp2_with fail
      go_roundw
      case rel => exact ⟨i + 1, by omega, by go_num, hB.trans (hBS.mono hB.size)⟩
      case measure => simp [intOf]; omega
    · obtain rfl : i = l.length := by omega
      go_wp2_with fail
      go_ret
      exact ⟨rfl, HB0.out.trans (hB.mono HB0.out.size)⟩
mutual
/-- 'Eq' of one plain value with itself, in whatever memory. -/
theorem eq_any : ∀ p : PT, EqFor p
  | .mk k n s l => eq_step k n s l (eq_anys l)
theorem eq_anys : ∀ l : List PT, ∀ p ∈ l, EqFor p
  | [], p, h => by simp at h
  | q :: r, p, h => by
    rcases List.mem_cons.1 h with h | h
    · rw [h]; exact eq_any q
    · exact eq_anys r p h
end
end

section
open Go.RowKit
set_option maxRecDepth 100000
mutual
/-- A plain value's cells; its lists' own blocks, each list from its block's beginning. -/
def HasP (w : World) : PT → List Value → List Nat → Prop
  | .mk k n s l, cs, bs => s.size ≤ 140737488355328 ∧ l.length ≤ 4398046511104 ∧ ∃ la lc, cs = [.int .i64 k, .int .i64 n, .string s, .slice la l.length lc] ∧
      ((l = [] ∧ bs = []) ∨ ∃ b' xs bl, l ≠ [] ∧ la = some ⟨b', 0, none⟩ ∧ (∀ j v, xs[j]? = some v → w.cell? ⟨b', j, none⟩ = some v) ∧ HasPs w l xs bl ∧ bs = b' :: bl)
def HasPs (w : World) : List PT → List Value → List Nat → Prop
  | [], xs, bs => xs = [] ∧ bs = []
  | p :: r, xs, bs => ∃ cs xr b br, xs = cs ++ xr ∧ bs = b ++ br ∧ HasP w p cs b ∧ HasPs w r xr br
end
theorem HasP.len {w : World} {p : PT} {cs : List Value} {bs : List Nat} (h : HasP w p cs bs) : cs.length = 4 := by
  cases p with
  | mk k n s l =>
    obtain ⟨_, _, la, lc, rfl, _⟩ := h
    rfl
theorem HasPs.len {w : World} : ∀ {l : List PT} {xs : List Value} {bs : List Nat}, HasPs w l xs bs → xs.length = 4 * l.length
  | [], xs, bs, h => by rw [h.1]; rfl
  | p :: r, xs, bs, h => by
    obtain ⟨cs, xr, b, br, rfl, rfl, h1, h2⟩ := h
    rw [List.length_append, h1.len, HasPs.len h2, List.length_cons]
    omega
theorem cellOf_heap {w w' : World} {b j : Nat} (h : w'.heap[b]? = w.heap[b]?) : w'.cell? ⟨b, j, none⟩ = w.cell? ⟨b, j, none⟩ := by
  simp only [World.cell?, h]
mutual
theorem HasP.keep {w w' : World} : ∀ (p : PT) (cs : List Value) (bs : List Nat), (∀ g ∈ bs, w'.heap[g]? = w.heap[g]?) → HasP w p cs bs → HasP w' p cs bs
  | .mk k n s l, cs, bs, hk, h => by
    simp only [HasP] at h ⊢
    obtain ⟨h1, h2, la, lc, h3, h4⟩ := h
    refine ⟨h1, h2, la, lc, h3, ?_⟩
    rcases h4 with h4 | ⟨b', xs, bl, h5, h6, h7, h8, rfl⟩
    · exact .inl h4
    · refine .inr ⟨b', xs, bl, h5, h6, fun j v hv => ?_, HasPs.keep l xs bl (fun g hg => hk g (by simp [hg])) h8, rfl⟩
      rw [cellOf_heap (hk b' (by simp))]
      exact h7 j v hv
theorem HasPs.keep {w w' : World} : ∀ (l : List PT) (xs : List Value) (bs : List Nat), (∀ g ∈ bs, w'.heap[g]? = w.heap[g]?) → HasPs w l xs bs → HasPs w' l xs bs
  | [], xs, bs, hk, h => h
  | p :: r, xs, bs, hk, h => by
    simp only [HasPs] at h ⊢
    obtain ⟨cs, xr, b, br, rfl, rfl, h1, h2⟩ := h
    exact ⟨cs, xr, b, br, rfl, rfl, HasP.keep p cs b (fun g hg => hk g (by simp [hg])) h1, HasPs.keep r xr br (fun g hg => hk g (by simp [hg])) h2⟩
end
mutual
theorem HasP.lt {w : World} : ∀ (p : PT) (cs : List Value) (bs : List Nat), HasP w p cs bs → ∀ g ∈ bs, g < w.heap.size
  | .mk k n s l, cs, bs, h, g, hg => by
    simp only [HasP] at h
    obtain ⟨h1, h2, la, lc, h3, h4⟩ := h
    rcases h4 with ⟨_, rfl⟩ | ⟨b', xs, bl, h5, h6, h7, h8, rfl⟩
    · simp at hg
    · rcases List.mem_cons.1 hg with rfl | hg
      · have hl := h8.len
        have hp : 0 < l.length := List.length_pos_iff.2 h5
        have hx : 0 < xs.length := by omega
        exact cell_lt (h7 0 xs[0] (by simp [hx]))
      · exact HasPs.lt l xs bl h8 g hg
theorem HasPs.lt {w : World} : ∀ (l : List PT) (xs : List Value) (bs : List Nat), HasPs w l xs bs → ∀ g ∈ bs, g < w.heap.size
  | [], xs, bs, h, g, hg => by rw [h.2] at hg; simp at hg
  | p :: r, xs, bs, h, g, hg => by
    simp only [HasPs] at h
    obtain ⟨cs, xr, b, br, rfl, rfl, h1, h2⟩ := h
    rcases List.mem_append.1 hg with hg | hg
    · exact HasP.lt p cs b h1 g hg
    · exact HasPs.lt r xr br h2 g hg
end
theorem HasPs.snoc {w : World} : ∀ (l : List PT) (xs : List Value) (bs : List Nat) (p : PT) (cs : List Value) (b : List Nat), HasPs w l xs bs → HasP w p cs b → HasPs w (l ++ [p]) (xs ++ cs) (bs ++ b)
  | [], xs, bs, p, cs, b, h, hp => by
    obtain ⟨rfl, rfl⟩ := h
    exact ⟨cs, [], b, [], by simp, by simp, hp, rfl, rfl⟩
  | q :: r, xs, bs, p, cs, b, h, hp => by
    obtain ⟨cs', xr, b', br, rfl, rfl, h1, h2⟩ := h
    exact ⟨cs', xr ++ cs, b', br ++ b, by simp, by simp, h1, HasPs.snoc r xr br p cs b h2 hp⟩
mutual
theorem HasP.inP {w : World} : ∀ (p : PT) (cs : List Value) (bs : List Nat) (b o : Nat), HasP w p cs bs → (∀ j v, cs[j]? = some v → w.cell? ⟨b, o + j, none⟩ = some v) → InP w b o p
  | .mk k n s l, cs, bs, b, o, h, hc => by
    simp only [HasP] at h
    obtain ⟨h1, h2, la, lc, rfl, h4⟩ := h
    refine ⟨h1, h2, la, lc, ⟨hc 0 _ rfl, hc 1 _ rfl, hc 2 _ rfl, hc 3 _ rfl⟩, fun hl => ?_⟩
    rcases h4 with ⟨h4, _⟩ | ⟨b', xs, bl, h5, h6, h7, h8, rfl⟩
    · exact absurd h4 hl
    · exact ⟨b', 0, h6, HasPs.inPs l xs bl b' 0 h8 (fun j v hv => by rw [Nat.zero_add]; exact h7 j v hv)⟩
theorem HasPs.inPs {w : World} : ∀ (l : List PT) (xs : List Value) (bs : List Nat) (b o : Nat), HasPs w l xs bs → (∀ j v, xs[j]? = some v → w.cell? ⟨b, o + j, none⟩ = some v) → InPs w b o l
  | [], xs, bs, b, o, h, hc => trivial
  | p :: r, xs, bs, b, o, h, hc => by
    simp only [HasPs] at h
    obtain ⟨cs, xr, bp, br, rfl, rfl, h1, h2⟩ := h
    have hl := h1.len
    refine ⟨HasP.inP p cs bp b o h1 (fun j v hv => hc j v ?_), HasPs.inPs r xr br b (o + 4) h2 (fun j v hv => ?_)⟩
    · rw [List.getElem?_append_left (by rcases Nat.lt_or_ge j cs.length with h' | h'; exact h'; simp [List.getElem?_eq_none h'] at hv)]
      exact hv
    · have := hc (4 + j) v (by rw [List.getElem?_append_right (by omega), hl, Nat.add_sub_cancel_left]; exact hv)
      rw [Nat.add_assoc]; exact this
end
theorem HasP.arg {w : World} {p : PT} {cs : List Value} {bs : List Nat} (h : HasP w p cs bs) : ArgP w p (.agg cs.toArray) := by
  cases p with
  | mk k n s l =>
    simp only [HasP] at h
    obtain ⟨h1, h2, la, lc, rfl, h4⟩ := h
    refine ⟨h1, h2, la, lc, rfl, fun hl => ?_⟩
    rcases h4 with ⟨h4, _⟩ | ⟨b', xs, bl, h5, h6, h7, h8, rfl⟩
    · exact absurd h4 hl
    · exact ⟨b', 0, h6, HasPs.inPs l xs bl b' 0 h8 (fun j v hv => by rw [Nat.zero_add]; exact h7 j v hv)⟩
end

section
open Go.RowKit
set_option maxRecDepth 100000
theorem sizeB : (Tryz.prog.info? 65).map (·.size) = some 2 := by kernel_rfl
theorem liesB : liesAt Tryz.prog Tryz.prog.depth 65 (2 / Tryz.prog.cellsOf 65) 0 65 1 = true := by kernel_rfl
theorem infoB : (Tryz.prog.info? 5).map (fun i => (i.zero, i.size, i.bytes)) = some (some (.int .u8 0), 1, 1) := by kernel_rfl
set_option maxHeartbeats 1000000 in
theorem copy_used (b : Nat) (w : World) (h0 : w.cell? ⟨b, 0, none⟩ = some (.pointer (some ⟨b, 0, none⟩))) : Calls Tryz.prog 66 #[.pointer (some ⟨b, 0, none⟩)] w fun e w' => e = .returned (.tuple #[]) ∧ w' = w := by
  obtain ⟨j, hj, _⟩ := Option.map_eq_some_iff.1 sizeB
  have HJ := Lib.hid hj
  clear hj
  go_enter Tryz.func66, Tryz.ntmps66
  go_wp2_with fail
  rw [Lib.run_neq_ptr_same w _ Tryz.underlying62 HJ.out]
  go_wp2_with fail
  go_end0
  exact ⟨rfl, rfl⟩
set_option maxHeartbeats 1000000 in
theorem copy_fresh (b : Nat) (w : World) (h0 : w.cell? ⟨b, 0, none⟩ = some (.pointer none)) (hsh : w.shape? b = some (65, 2)) (hfz : w.frozen? ⟨b, 0, none⟩ = false) :
    Calls Tryz.prog 66 #[.pointer (some ⟨b, 0, none⟩)] w fun e w' => e = .returned (.tuple #[]) ∧ w' = w.setCell ⟨b, 0, none⟩ (.pointer (some ⟨b, 0, none⟩)) := by
  obtain ⟨j, hj, hjs⟩ := Option.map_eq_some_iff.1 sizeB
  have HJ := Lib.hid hj
  have HS := Lib.hid hjs
  have HH := Lib.hid hsh
  clear hj hjs hsh
  go_enter Tryz.func66, Tryz.ntmps66
  go_wp2_with fail
  go_outline
  rw [Lib.run_to_unsafe w ⟨b, 0, none⟩ Tryz.underlying62 Tryz.underlying121 HJ.out (by rw [HS.out]; decide) HH.out (Nat.zero_lt_succ 1)]
  simp only [Result.andThen]
  rw [Oper.upon_value]
  go_wp2_with fail
  rw [run_callFunc_extern Tryz.func72 (by kernel_rfl) (by kernel_rfl) (by kernel_rfl) (e := Extern.AbiNoEscape.same) (by kernel_rfl)]
  rw [Lib.run_noEscape]
  simp only [Result.andThen]
  rw [Oper.upon_value]
  go_wp2_with fail
  rw [Lib.run_from_unsafe w ⟨b, 0, none⟩ Tryz.underlying121 Tryz.underlying62 HJ.out HH.out liesB]
  simp only [Result.andThen]
  rw [Oper.upon_value]
  go_wp2_with fail
  go_end0
  exact ⟨rfl, rfl⟩
theorem copyCheck_any (B b : Nat) (bs : List Value) (w : World) (h : Lib.IsBuilderF 65 5 B b bs w) :
    Calls Tryz.prog 66 #[.pointer (some ⟨b, 0, none⟩)] w fun e w' => e = .returned (.tuple #[]) ∧ (Lib.BuilderAtF 65 5 B b (.pointer (some ⟨b, 0, none⟩)) bs w' ∧ Below B w w' ∧ Lib.OthersKept 5 (some b) w w') := by
  rcases h with h | h
  · refine (copy_fresh b w h.cell0 h.shape h.frozen0).mono ?_
    rintro e w' ⟨rfl, rfl⟩
    exact ⟨rfl, h.used _, (Below.refl B w).setCell (p := ⟨b, 0, none⟩) h.1 _, (Lib.OthersKept.refl _ _ w).setCell ⟨b, 0, none⟩ rfl _⟩
  · refine (copy_used b w h.cell0).mono ?_
    rintro e w' ⟨rfl, rfl⟩
    exact ⟨rfl, h, Below.refl B _, Lib.OthersKept.refl _ _ _⟩
set_option maxHeartbeats 2000000 in
theorem writeByte_any (B b : Nat) (bs : List Value) (c : Int) (w : World) (h : Lib.IsBuilderF 65 5 B b bs w) (hlen : bs.length + 1 ≤ 140737488355328) (hBw : B ≤ w.heap.size) :
    Calls Tryz.prog 48 #[.pointer (some ⟨b, 0, none⟩), .int .u8 c] w fun e w' => e = .returned .nilIface ∧ (Lib.BuilderAtF 65 5 B b (.pointer (some ⟨b, 0, none⟩)) (bs ++ [.int .u8 c]) w' ∧ Below B w w' ∧ Lib.OthersKept 5 (some b) w w') := by
  obtain ⟨i0, hi, hz0, hz1, hz2⟩ := info_parts infoB
  go_enter Tryz.func48, Tryz.ntmps48
  go_wp2_with (go_at_call 66; refine (copyCheck_any B b bs _ h).mono ?_)
  rintro e w1 ⟨rfl, h1, hb1, hk1⟩
  obtain ⟨hB, v, hbk, hown, hne⟩ := h1
  have c0 : w1.cell? ⟨b, 0, none⟩ = some (.pointer (some ⟨b, 0, none⟩)) := by rw [Lib.cell_of_heap hbk]; rfl
  have c1 : w1.cell? ⟨b, 1, none⟩ = some v := by rw [Lib.cell_of_heap hbk]; rfl
  go_wp2_with (at_builtin; refine wpList_append_ownF _ rfl _ _ 63 rfl B 5 i0 (.int .u8 0) 1 1 Tryz.underlying63 hi hz0 hz1 hz2 rfl (by decide) _ _ _ rfl (hown.alloc _) ⟨w1.heap.size, 0, none⟩ 1 1 [.int .u8 c] rfl rfl ?c1 ?c2 ?c3 ?c4 ?c5 ?_)
  case c1 => exact one_new _ _ _
  case c2 => intro u hu; simp at hu; subst hu; rfl
  case c3 => unfold maxLen; omega
  case c4 => omega
  case c5 => have := hb1.size; simp; omega
  intro v' w2 hown' hgrow _
  have hlt : b < w1.heap.size := by
    rcases Nat.lt_or_ge b w1.heap.size with h' | h'
    · exact h'
    · simp [Array.getElem?_eq_none h'] at hbk
  have hb2 : w2.heap[b]? = some (.cells #[.pointer (some ⟨b, 0, none⟩), v] 65 (0, 0)) := by
    rw [hgrow.block b (by simp; omega) (fun e => hne e.symm), Lib.alloc_old w1 _ b hlt]
    exact hbk
  have d0 : w2.cell? ⟨b, 0, none⟩ = some (.pointer (some ⟨b, 0, none⟩)) := by rw [Lib.cell_of_heap hb2]; rfl
  have d1 : w2.cell? ⟨b, 1, none⟩ = some v := by rw [Lib.cell_of_heap hb2]; rfl
  have f1 : w2.frozen? ⟨b, 1, none⟩ = false := Lib.frozen_of_heap hb2 1
  obtain ⟨g, cap, rfl⟩ : ∃ g cap, v' = .slice (some ⟨g, 0, none⟩) (bs.length + 1) cap := by
    rcases hown'.2 with ⟨_, h0⟩ | ⟨g, cap, cur, fz, hv, _⟩
    · omega
    · exact ⟨g, cap, hv⟩
  go_wp2_with fail
  go_ret
  refine ⟨rfl, ?_, ?_, ((hk1.alloc _).grown hgrow (Lib.ownsRowF_kind (hown.alloc _))).setCell ⟨b, 1, none⟩ rfl _⟩
  · exact Lib.BuilderAtF.put (T := 65) (e := 5) hB hb2 (bs' := bs ++ [.int .u8 c]) (by simpa using hown') (by decide)
  · exact ((hb1.alloc (by have := hb1.size; omega) _).grown hgrow (by have := hb1.size; simp; omega) (fun k hk => (hown.lt k hk).1)).setCell (p := ⟨b, 1, none⟩) hB _
set_option maxHeartbeats 2000000 in
theorem writeString_any (B b : Nat) (bs : List Value) (s : ByteArray) (w : World) (h : Lib.IsBuilderF 65 5 B b bs w) (hlen : bs.length + s.size ≤ 140737488355328) (hBw : B ≤ w.heap.size) :
    Calls Tryz.prog 45 #[.pointer (some ⟨b, 0, none⟩), .string s] w fun e w' => e = .returned (.tuple #[.int .i64 s.size, .nilIface]) ∧ (Lib.BuilderAtF 65 5 B b (.pointer (some ⟨b, 0, none⟩)) (bs ++ Lib.strCells s) w' ∧ Below B w w' ∧ Lib.OthersKept 5 (some b) w w') := by
  obtain ⟨i0, hi, hz0, hz1, hz2⟩ := info_parts infoB
  go_enter Tryz.func45, Tryz.ntmps45
  go_wp2_with (go_at_call 66; refine (copyCheck_any B b bs _ h).mono ?_)
  rintro e w1 ⟨rfl, h1, hb1, hk1⟩
  obtain ⟨hB, v, hbk, hown, hne⟩ := h1
  have c0 : w1.cell? ⟨b, 0, none⟩ = some (.pointer (some ⟨b, 0, none⟩)) := by rw [Lib.cell_of_heap hbk]; rfl
  have c1 : w1.cell? ⟨b, 1, none⟩ = some v := by rw [Lib.cell_of_heap hbk]; rfl
  go_wp2_with (at_builtin; refine Lib.wpList_append_own_stringF _ rfl _ _ 63 9 rfl B 5 i0 Tryz.underlying63 Tryz.underlying9 hi hz0 hz1 hz2 _ _ _ rfl hown s rfl ?c3 ?c4 ?c5 ?_)
  case c3 => unfold maxLen; omega
  case c4 => omega
  case c5 => have := hb1.size; omega
  intro v' w2 hown' hgrow _
  have hlt : b < w1.heap.size := by
    rcases Nat.lt_or_ge b w1.heap.size with h' | h'
    · exact h'
    · simp [Array.getElem?_eq_none h'] at hbk
  have hb2 : w2.heap[b]? = some (.cells #[.pointer (some ⟨b, 0, none⟩), v] 65 (0, 0)) := by
    rw [hgrow.block b hlt (fun e => hne e.symm)]
    exact hbk
  have d0 : w2.cell? ⟨b, 0, none⟩ = some (.pointer (some ⟨b, 0, none⟩)) := by rw [Lib.cell_of_heap hb2]; rfl
  have d1 : w2.cell? ⟨b, 1, none⟩ = some v := by rw [Lib.cell_of_heap hb2]; rfl
  have f1 : w2.frozen? ⟨b, 1, none⟩ = false := Lib.frozen_of_heap hb2 1
  obtain ⟨ao, n', cap, rfl⟩ : ∃ ao n' cap, v' = .slice ao n' cap := by
    rcases hown'.2 with ⟨hv, _⟩ | ⟨g, cap, cur, fz, hv, _⟩
    · exact ⟨_, _, _, hv⟩
    · exact ⟨_, _, _, hv⟩
  go_wp2_with fail
  go_ret2
  refine ⟨rfl, ?_, ?_, (hk1.grown hgrow (Lib.ownsRowF_kind hown)).setCell ⟨b, 1, none⟩ rfl _⟩
  · exact Lib.BuilderAtF.put (T := 65) (e := 5) hB hb2 (bs' := bs ++ Lib.strCells s) (by simpa [Lib.strCells_length] using hown') (by decide)
  · exact (hb1.grown hgrow (by have := hb1.size; omega) (fun k hk => (hown.lt k hk).1)).setCell (p := ⟨b, 1, none⟩) hB _
end

section
open Go.RowKit
set_option maxRecDepth 100000
def Bld (B b : Nat) (l : List UInt8) (w : World) : Prop := Lib.IsBuilderF 65 5 B b (Lib.byteCells l) w
/-- What a writer leaves. -/
def Wrote (B b : Nat) (l : List UInt8) (w w' : World) : Prop := Bld B b l w' ∧ Below B w w' ∧ Lib.OthersKept 5 (some b) w w'
theorem Wrote.trans {B b : Nat} {l l' : List UInt8} {w w' w'' : World} (h : Wrote B b l w w') (k : Wrote B b l' w' w'') : Wrote B b l' w w'' := ⟨k.1, h.2.1.trans k.2.1, h.2.2.trans k.2.2⟩
theorem put_byte (B b : Nat) (l : List UInt8) (x : UInt8) (c : Int) (hc : c = (x.toNat : Int)) (w : World) (h : Bld B b l w) (hlen : l.length + 1 ≤ 140737488355328) (hBw : B ≤ w.heap.size) :
    Calls Tryz.prog 48 #[.pointer (some ⟨b, 0, none⟩), .int .u8 c] w fun e w' => e = .returned .nilIface ∧ Wrote B b (l ++ [x]) w w' := by
  subst hc
  refine (writeByte_any B b _ _ w h (by rw [Lib.byteCells_length]; exact hlen) hBw).mono ?_
  rintro e w' ⟨rfl, h1, h2, h3⟩
  refine ⟨rfl, .inr ?_, h2, h3⟩
  rw [Lib.byteCells_append]
  exact h1
theorem put_str (B b : Nat) (l : List UInt8) (s : ByteArray) (w : World) (h : Bld B b l w) (hlen : l.length + s.size ≤ 140737488355328) (hBw : B ≤ w.heap.size) :
    Calls Tryz.prog 45 #[.pointer (some ⟨b, 0, none⟩), .string s] w fun e w' => e = .returned (.tuple #[.int .i64 s.size, .nilIface]) ∧ Wrote B b (l ++ s.data.toList) w w' := by
  refine (writeString_any B b _ _ w h (by rw [Lib.byteCells_length]; exact hlen) hBw).mono ?_
  rintro e w' ⟨rfl, h1, h2, h3⟩
  refine ⟨rfl, .inr ?_, h2, h3⟩
  rw [Lib.byteCells_append]
  exact h1
def hexL : List UInt8 := [48, 49, 50, 51, 52, 53, 54, 55, 56, 57, 97, 98, 99, 100, 101, 102]
def hexd (n : Nat) : UInt8 := hexL.getD n 0
theorem hex_at (k : Nat) (h : k < (⟨#[48, 49, 50, 51, 52, 53, 54, 55, 56, 57, 97, 98, 99, 100, 101, 102]⟩ : ByteArray).size) :
    (⟨#[48, 49, 50, 51, 52, 53, 54, 55, 56, 57, 97, 98, 99, 100, 101, 102]⟩ : ByteArray)[k] = hexd k := by
  show (#[48, 49, 50, 51, 52, 53, 54, 55, 56, 57, 97, 98, 99, 100, 101, 102] : Array UInt8)[k] = hexL.getD k 0
  have h' : k < hexL.length := h
  rw [List.getD_eq_getElem?_getD, List.getElem?_eq_getElem h']
  rfl
def quoteB (c : UInt8) : List UInt8 := if c.toNat = 34 ∨ c.toNat = 92 then [92, c] else if 32 ≤ c.toNat ∧ c.toNat ≤ 126 then [c] else [92, 120, hexd (c.toNat / 16), hexd (c.toNat % 16)]
def quoteL (l : List UInt8) : List UInt8 := l.flatMap quoteB
theorem quoteB_len (c : UInt8) : (quoteB c).length ≤ 4 := by unfold quoteB; split <;> (try split) <;> simp
theorem quoteL_len (l : List UInt8) : (quoteL l).length ≤ 4 * l.length := by
  induction l with
  | nil => simp [quoteL]
  | cons c r ih => have := quoteB_len c; simp only [quoteL, List.flatMap_cons, List.length_append, List.length_cons] at ih ⊢; omega
def Quoted (B b : Nat) (l : List UInt8) (w : World) (e : Ending) (w' : World) : Prop := e = .returned (.tuple #[]) ∧ Wrote B b l w w'
set_option maxHeartbeats 2000000 in
theorem quote_any (B b : Nat) (l : List UInt8) (s : ByteArray) (w : World) (h : Bld B b l w) (hlen : l.length + (4 * s.size + 2) ≤ 140737488355328) (hBw : B ≤ w.heap.size) :
    Calls Tryz.prog 47 #[.pointer (some ⟨b, 0, none⟩), .string s] w (Quoted B b (l ++ ([34] ++ quoteL s.data.toList ++ [34])) w) := by
  have HB := Lib.hid h
  clear h
  go_enter Tryz.func47, Tryz.ntmps47
  go_wp2_with fail
  refine (put_byte B b l 34 _ rfl _ HB.out (by omega) hBw).mono ?_
  rintro e w0 ⟨rfl, hw0⟩
  have HW0 := Lib.hid hw0
  clear hw0
  go_wp2_with fail
  go_loopw [10] (fun iv wr => ∃ (i : Nat), i ≤ s.size ∧ iv = .int .i64 i ∧ Hid (Wrote B b (l ++ ([34] ++ quoteL (s.data.toList.take i))) w wr))
    (fun i _ => s.size - (intOf i).toNat)
  case atStart => exact ⟨0, by omega, rfl, Lib.hid (by simpa [quoteL] using HW0.out)⟩
  case round =>
    obtain ⟨i, hi, rfl, hw⟩ := hrel
    have hwB : B ≤ wr.heap.size := Nat.le_trans hBw hw.out.2.1.size
    by_cases hlt : i < s.size
    · have hql : (quoteL (s.data.toList.take i)).length ≤ 4 * i := Nat.le_trans (quoteL_len _) (by simp; omega)
      have HQ := Lib.hid hql
      clear hql
      have hstep : quoteL (s.data.toList.take (i + 1)) = quoteL (s.data.toList.take i) ++ quoteB s[i] := by
        rw [List.take_succ_eq_append_getElem (by simpa using hlt), quoteL, List.flatMap_append]; simp [quoteL]; rfl
      have HS := Lib.hid hstep
      clear hstep
      have hmore : ∀ q wz, quoteB s[i] = q → Wrote B b (l ++ ([34] ++ quoteL (s.data.toList.take i)) ++ q) wr wz → Wrote B b (l ++ ([34] ++ quoteL (s.data.toList.take (i + 1)))) w wz := fun q wz e hz => by
        rw [HS.out, e]
        have := hw.out.trans hz
        simpa [List.append_assoc] using this
      have HM := Lib.hid hmore
      clear hmore
      have hlen0 : (l ++ ([34] ++ quoteL (s.data.toList.take i))).length + 4 ≤ 140737488355328 - 1 := by have := HQ.out; simp; omega
      have HL := Lib.hid hlen0
      clear hlen0
      obtain ⟨c, hc⟩ : ∃ c, c = s[i] := ⟨_, rfl⟩
      rw [← hc] at HM
      have h8 : c.toNat < 256 := c.toNat_lt
      have hidx : (s[i].toNat : Int) = (c.toNat : Int) := by rw [hc]
      have HC := Lib.hid hc
      clear hc HS
      by_cases h34 : c.toNat = 34
      · have b1 : ((c.toNat : Int) == 34) = true := by rw [h34]; rfl
        have e1 : quoteB c = [92, c] := if_pos (.inl h34)
        have HE := Lib.hid e1
        have H34 := Lib.hid h34
        clear e1 h34
        go_wp2_with fail
        refine (put_byte B b _ 92 _ rfl _ hw.out.1 (by have := HL.out; omega) hwB).mono ?_
        rintro e w1 ⟨rfl, hw1⟩
        have HW1 := Lib.hid hw1
        clear hw1
        go_wp2_with fail
        refine (put_byte B b _ c _ (by first | rfl | simp [H34.out]) _ HW1.out.1 (by have := HL.out; simp at this ⊢; omega) (Nat.le_trans hwB HW1.out.2.1.size)).mono ?_
        rintro e w2 ⟨rfl, hw2⟩
        have HW2 := Lib.hid (HM.out _ _ HE.out (by simpa using HW1.out.trans hw2))
        clear hw2
        go_wp2_with fail
        go_roundw
        case rel => exact ⟨i + 1, by omega, by go_num, HW2⟩
        case measure => simp [intOf]; omega
      · have n34 : ((c.toNat : Int) == 34) = false := by simpa using (show ¬ (c.toNat : Int) = 34 by omega)
        by_cases h92 : c.toNat = 92
        · have b1 : ((c.toNat : Int) == 92) = true := by rw [h92]; rfl
          have e1 : quoteB c = [92, c] := if_pos (.inr h92)
          have HE := Lib.hid e1
          have H34 := Lib.hid h92
          clear e1 h92 h34
          go_wp2_with fail
          refine (put_byte B b _ 92 _ rfl _ hw.out.1 (by have := HL.out; omega) hwB).mono ?_
          rintro e w1 ⟨rfl, hw1⟩
          have HW1 := Lib.hid hw1
          clear hw1
          go_wp2_with fail
          refine (put_byte B b _ c _ (by first | rfl | simp [H34.out]) _ HW1.out.1 (by have := HL.out; simp at this ⊢; omega) (Nat.le_trans hwB HW1.out.2.1.size)).mono ?_
          rintro e w2 ⟨rfl, hw2⟩
          have HW2 := Lib.hid (HM.out _ _ HE.out (by simpa using HW1.out.trans hw2))
          clear hw2
          go_wp2_with fail
          go_roundw
          case rel => exact ⟨i + 1, by omega, by go_num, HW2⟩
          case measure => simp [intOf]; omega
        · have n92 : ((c.toNat : Int) == 92) = false := by simpa using (show ¬ (c.toNat : Int) = 92 by omega)
          by_cases hp : 32 ≤ c.toNat ∧ c.toNat ≤ 126
          · have e1 : quoteB c = [c] := by unfold quoteB; rw [if_neg (by omega), if_pos hp]
            have HE := Lib.hid e1
            obtain ⟨p1, p2⟩ := hp
            clear e1 h34 h92
            go_wp2_with fail
            refine (put_byte B b _ c _ rfl _ hw.out.1 (by have := HL.out; omega) hwB).mono ?_
            rintro e w1 ⟨rfl, hw1⟩
            have HW2 := Lib.hid (HM.out _ _ HE.out hw1)
            clear hw1
            go_wp2_with fail
            go_roundw
            case rel => exact ⟨i + 1, by omega, by go_num, HW2⟩
            case measure => simp [intOf]; omega
          · have e1 : quoteB c = [92, 120, hexd (c.toNat / 16), hexd (c.toNat % 16)] := by unfold quoteB; rw [if_neg (by omega), if_neg hp]
            have HE := Lib.hid e1
            clear e1 h34 h92
            have hp' : c.toNat < 32 ∨ 126 < c.toNat := by omega
            clear hp
            rcases hp' with hp | hp
            · go_wp2_with fail
              refine (put_str B b _ _ _ hw.out.1 (by have := HL.out; have e2 : (⟨#[92, 120]⟩ : ByteArray).size = 2 := rfl; rw [e2]; omega) hwB).mono ?_
              rintro e w1 ⟨rfl, hw1⟩
              have HW1 : Hid (Wrote B b (l ++ ([34] ++ quoteL (s.data.toList.take i)) ++ [92, 120]) wr w1) := hw1
              clear hw1
              go_wp2_with fail
              refine (put_byte B b _ (hexd (c.toNat / 16)) _ (congrArg (fun x : UInt8 => (x.toNat : Int)) (hex_at _ _)) _ HW1.out.1 (by have := HL.out; simp at this ⊢; omega) (Nat.le_trans hwB HW1.out.2.1.size)).mono ?_
              rintro e w2 ⟨rfl, hw2⟩
              have HW2 := Lib.hid (HW1.out.trans hw2)
              clear hw2
              go_wp2_with fail
              refine (put_byte B b _ (hexd (c.toNat % 16)) _ (congrArg (fun x : UInt8 => (x.toNat : Int)) (hex_at _ _)) _ HW2.out.1 (by have := HL.out; simp at this ⊢; omega) (Nat.le_trans hwB HW2.out.2.1.size)).mono ?_
              rintro e w3 ⟨rfl, hw3⟩
              have HW3 := Lib.hid (HM.out _ _ HE.out (by simpa [List.append_assoc] using HW2.out.trans hw3))
              clear hw3
              go_wp2_with fail
              go_roundw
              case rel => exact ⟨i + 1, by omega, by go_num, HW3⟩
              case measure => simp [intOf]; omega
            · go_wp2_with fail
              refine (put_str B b _ _ _ hw.out.1 (by have := HL.out; have e2 : (⟨#[92, 120]⟩ : ByteArray).size = 2 := rfl; rw [e2]; omega) hwB).mono ?_
              rintro e w1 ⟨rfl, hw1⟩
              have HW1 : Hid (Wrote B b (l ++ ([34] ++ quoteL (s.data.toList.take i)) ++ [92, 120]) wr w1) := hw1
              clear hw1
              go_wp2_with fail
              refine (put_byte B b _ (hexd (c.toNat / 16)) _ (congrArg (fun x : UInt8 => (x.toNat : Int)) (hex_at _ _)) _ HW1.out.1 (by have := HL.out; simp at this ⊢; omega) (Nat.le_trans hwB HW1.out.2.1.size)).mono ?_
              rintro e w2 ⟨rfl, hw2⟩
              have HW2 := Lib.hid (HW1.out.trans hw2)
              clear hw2
              go_wp2_with fail
              refine (put_byte B b _ (hexd (c.toNat % 16)) _ (congrArg (fun x : UInt8 => (x.toNat : Int)) (hex_at _ _)) _ HW2.out.1 (by have := HL.out; simp at this ⊢; omega) (Nat.le_trans hwB HW2.out.2.1.size)).mono ?_
              rintro e w3 ⟨rfl, hw3⟩
              have HW3 := Lib.hid (HM.out _ _ HE.out (by simpa [List.append_assoc] using HW2.out.trans hw3))
              clear hw3
              go_wp2_with fail
              go_roundw
              case rel => exact ⟨i + 1, by omega, by go_num, HW3⟩
              case measure => simp [intOf]; omega
    · have hlast : i = s.size := by omega
      have e1 : s.data.toList.take i = s.data.toList := List.take_of_length_le (by simp; omega)
      have HQ := Lib.hid (quoteL_len s.data.toList)
      have HE := Lib.hid e1
      clear e1 hlast
      go_wp2_with fail
      refine (put_byte B b _ 34 _ rfl _ hw.out.1 (by rw [HE.out]; have := HQ.out; simp at this ⊢; omega) hwB).mono ?_
      rintro e w1 ⟨rfl, hw1⟩
      have HW1 := Lib.hid (hw.out.trans hw1)
      clear hw1
      go_wp2_with fail
      go_end0
      exact ⟨rfl, by have := HW1.out; rw [HE.out] at this; simpa [List.append_assoc] using this⟩
end

section
open Go.RowKit
set_option maxRecDepth 100000
/-- The listed variables as they were laid. -/
def Tabs (w : World) : Prop := Lib.TabIs Tryz.prog w "internal/strconv.uint64pow10" .u64 Lib.pow10Tab ∧ (∃ tp p, w.var? Tryz.prog "strconv.ErrSyntax" = some #[.iface tp p]) ∧ (∃ tp p, w.var? Tryz.prog "strconv.ErrRange" = some #[.iface tp p])
theorem g_pow : Tryz.prog.globalNamed "internal/strconv.uint64pow10" = some 0 := by kernel_rfl
theorem g_syn : Tryz.prog.globalNamed "strconv.ErrSyntax" = some 1 := by kernel_rfl
theorem g_ran : Tryz.prog.globalNamed "strconv.ErrRange" = some 2 := by kernel_rfl
theorem Tabs.below {B : Nat} {w w' : World} (h : Tabs w) (hb : Below B w w') (hB : 5 ≤ B) : Tabs w' := by
  obtain ⟨h1, ⟨tp, p, h2⟩, tq, q, h3⟩ := h
  exact ⟨var?_below hb g_pow (by omega) h1, ⟨tp, p, var?_below hb g_syn (by omega) h2⟩, tq, q, var?_below hb g_ran (by omega) h3⟩
mutual
def okV : VT → Prop
  | .unit => True
  | .truth _ => True
  | .int n => -9223372036854775808 ≤ n ∧ n ≤ 9223372036854775807
  | .text _ => True
  | .list l => okVs l
def okVs : List VT → Prop
  | [] => True
  | t :: r => okV t ∧ okVs r
end
mutual
/-- A value's text. -/
def enc : VT → List UInt8
  | .unit => [117, 110, 105, 116]
  | .truth b => if b then [121, 101, 115] else [110, 111]
  | .int n => Lib.itoa n
  | .text s => [34] ++ quoteL s.data.toList ++ [34]
  | .list l => [91] ++ encL l ++ [93]
def encL : List VT → List UInt8
  | [] => []
  | t :: r => enc t ++ encR r
def encR : List VT → List UInt8
  | [] => []
  | t :: r => [44, 32] ++ (enc t ++ encR r)
end
mutual
/-- No longer than this. -/
def encB : VT → Nat
  | .unit => 4
  | .truth _ => 3
  | .int _ => 20
  | .text s => 4 * s.size + 2
  | .list l => 2 + encBs l
def encBs : List VT → Nat
  | [] => 0
  | t :: r => encB t + 2 + encBs r
end
theorem encR_snoc : ∀ (l : List VT) (t : VT), encR (l ++ [t]) = encR l ++ ([44, 32] ++ enc t)
  | [], t => by simp [encR]
  | x :: r, t => by simp only [List.cons_append, encR, encR_snoc r t, List.append_assoc]
theorem encL_snoc (l : List VT) (t : VT) (h : l ≠ []) : encL (l ++ [t]) = encL l ++ ([44, 32] ++ enc t) := by
  cases l with
  | nil => exact absurd rfl h
  | cons x r => simp only [List.cons_append, encL, encR_snoc r t, List.append_assoc]
theorem encBs_take : ∀ (l : List VT) (i : Nat) (h : i < l.length), encBs (l.take i) + (encB l[i] + 2) ≤ encBs l
  | x :: r, 0, h => by simp [encBs]
  | x :: r, i + 1, h => by
    have := encBs_take r i (by simpa using h)
    simp only [List.take_succ_cons, encBs, List.getElem_cons_succ] at this ⊢
    omega
theorem digits_len : ∀ (k u : Nat), u < 10 ^ (k + 1) → (Lib.decDigits u).length ≤ k + 1
  | 0, u, h => by unfold Lib.decDigits; rw [dif_pos (by simpa using h)]; exact Nat.le_refl _
  | k + 1, u, h => by
    unfold Lib.decDigits
    split
    · simp
    · have := digits_len k (u / 10) (by rw [Nat.div_lt_iff_lt_mul (by omega)]; rw [Nat.pow_succ] at h; omega)
      simp; omega
theorem itoa_len {n : Int} (h : -9223372036854775808 ≤ n ∧ n ≤ 9223372036854775807) : (Lib.itoa n).length ≤ 20 := by
  unfold Lib.itoa
  split
  · have := digits_len 18 n.natAbs (by omega)
    simp; omega
  · have := digits_len 18 n.toNat (by omega)
    omega
mutual
theorem enc_len : ∀ t : VT, okV t → (enc t).length ≤ encB t
  | .unit, _ => by simp [enc, encB]
  | .truth b, _ => by cases b <;> simp [enc, encB]
  | .int n, h => by simp only [enc, encB]; exact itoa_len h
  | .text s, _ => by have := quoteL_len s.data.toList; simp [enc, encB] at this ⊢; omega
  | .list l, h => by have := encL_len l h; simp [enc, encB]; omega
theorem encL_len : ∀ l : List VT, okVs l → (encL l).length ≤ encBs l
  | [], _ => by simp [encL, encBs]
  | t :: r, h => by have h1 := enc_len t h.1; have h2 := encR_len r h.2; simp [encL, encBs]; omega
theorem encR_len : ∀ l : List VT, okVs l → (encR l).length ≤ encBs l
  | [], _ => by simp [encR, encBs]
  | t :: r, h => by have h1 := enc_len t h.1; have h2 := encR_len r h.2; simp [encR, encBs]; omega
end
theorem okVs_take : ∀ (l : List VT) (i : Nat), okVs l → okVs (l.take i)
  | [], i, h => by simp [okVs]
  | t :: r, 0, h => by simp [okVs]
  | t :: r, i + 1, h => by simp only [List.take_succ_cons, okVs] at h ⊢; exact ⟨h.1, okVs_take r i h.2⟩
theorem okVs_get : ∀ (l : List VT) (i : Nat) (h : i < l.length), okVs l → okV l[i]
  | t :: r, 0, h, ho => ho.1
  | t :: r, i + 1, h, ho => okVs_get r i (by simpa using h) ho.2
/-- Behind a writer the value stands. -/
theorem ownsRow_others {w w' : World} {n : Nat} {v : Value} {xs : List Value} {b : Nat} (h : w.ownsRow 0 32 1 v n xs) (hb : v.ownBlock ≠ some b) (hk : Lib.OthersKept 5 (some b) w w') : w'.ownsRow 0 32 1 v n xs := by
  refine ⟨h.1, ?_⟩
  rcases h.2 with hn | ⟨g, cap, cur, rfl, hb', hgg, rest⟩
  · exact .inl hn
  · exact .inr ⟨g, cap, cur, rfl, hb', hk g _ hgg (fun e => hb (by simpa [Value.ownBlock] using e)) (fun c fz e => by simp at e), rest⟩
mutual
theorem RepV.others {w w' : World} {b : Nat} (hk : Lib.OthersKept 5 (some b) w w') : ∀ (t : VT) (v : Value) (bs : List Nat), b ∉ bs → RepV w t v bs → RepV w' t v bs
  | .unit, v, bs, hb, h => h
  | .truth _, v, bs, hb, h => h
  | .int n, v, bs, hb, h => h
  | .text s, v, bs, hb, h => h
  | .list l, v, bs, hb, h => by
    obtain ⟨sv, vs, bl, h1, h2, h3, rfl⟩ := h
    exact ⟨sv, vs, bl, h1, ownsRow_others h2 (fun e => hb (by simp [e])) hk, RepVs.others hk l vs bl (fun e => hb (by simp [e])) h3, rfl⟩
theorem RepVs.others {w w' : World} {b : Nat} (hk : Lib.OthersKept 5 (some b) w w') : ∀ (l : List VT) (vs : List Value) (bs : List Nat), b ∉ bs → RepVs w l vs bs → RepVs w' l vs bs
  | [], vs, bs, hb, h => h
  | t :: r, vs, bs, hb, h => by
    obtain ⟨v, vr, b', br, h1, rfl, h3, h4⟩ := h
    exact ⟨v, vr, b', br, h1, rfl, RepV.others hk t v b' (fun e => hb (by simp [e])) h3, RepVs.others hk r vr br (fun e => hb (by simp [e])) h4⟩
end
end

section
open Go.RowKit
set_option maxRecDepth 100000
/-- The reader lies in block r. -/
def RD (r : Nat) (s : ByteArray) (a z : Nat) (w : World) : Prop := w.heap[r]? = some (.cells #[.string s, .int .i64 a, .int .i64 z] 74 (0, 0))
theorem RD.cells {r : Nat} {s : ByteArray} {a z : Nat} {w : World} (h : RD r s a z w) : w.cell? ⟨r, 0, none⟩ = some (.string s) ∧ w.cell? ⟨r, 1, none⟩ = some (.int .i64 a) ∧ w.cell? ⟨r, 2, none⟩ = some (.int .i64 z) ∧
    w.frozen? ⟨r, 1, none⟩ = false ∧ w.frozen? ⟨r, 2, none⟩ = false := by
  refine ⟨?_, ?_, ?_, Lib.frozen_of_heap h 1, Lib.frozen_of_heap h 2⟩ <;> rw [Lib.cell_of_heap h] <;> rfl
theorem RD.lt {r : Nat} {s : ByteArray} {a z : Nat} {w : World} (h : RD r s a z w) : r < w.heap.size := (Array.getElem?_eq_some_iff.1 h).1
theorem RD.to1 {r : Nat} {s : ByteArray} {a z : Nat} {w : World} (h : RD r s a z w) (a' : Nat) : RD r s a' z (w.setCell ⟨r, 1, none⟩ (.int .i64 a')) := by
  have hlt := h.lt
  unfold RD at *
  simp only [World.setCell, Array.getElem?_modify, h]
  simp
theorem RD.to2 {r : Nat} {s : ByteArray} {a z : Nat} {w : World} (h : RD r s a z w) (z' : Nat) : RD r s a z' (w.setCell ⟨r, 2, none⟩ (.int .i64 z')) := by
  have hlt := h.lt
  unfold RD at *
  simp only [World.setCell, Array.getElem?_modify, h]
  simp
theorem RD.drewN {r : Nat} {s : ByteArray} {a z : Nat} {w : World} (h : RD r s a z w) (n : Nat) : RD r s a z (w.drewN n) := h
/-- But for the reader's block all stands. -/
def KB (r : Nat) (w w' : World) : Prop := w.grownBy w' (some r)
theorem KB.refl (r : Nat) (w : World) : KB r w w := ⟨rfl, rfl, rfl, Nat.le_refl _, fun _ _ _ => rfl⟩
theorem KB.trans {r : Nat} {a b c : World} (h : KB r a b) (k : KB r b c) : KB r a c :=
  ⟨k.os.trans h.os, k.tape.trans h.tape, k.output.trans h.output, Nat.le_trans h.size k.size, fun i hi hr => (k.block i (Nat.lt_of_lt_of_le hi h.size) hr).trans (h.block i hi hr)⟩
theorem KB.set {r : Nat} {w : World} (j : Nat) (v : Value) : KB r w (w.setCell ⟨r, j, none⟩ v) :=
  ⟨rfl, rfl, rfl, by simp [World.setCell], fun k _ hk => Below.heap_setCell _ _ _ _ (fun e => hk (by simp [e]))⟩
theorem KB.drewN {r : Nat} {w : World} (n : Nat) : KB r w (w.drewN n) := ⟨rfl, rfl, rfl, Nat.le_refl _, fun _ _ _ => rfl⟩
theorem KB.of_below {r : Nat} {w w' : World} (h : Below w.heap.size w w') : KB r w w' := ⟨h.os, h.tape, h.output, h.size, fun k hk _ => h.block k hk⟩
theorem KB.below {r B : Nat} {w w' : World} (h : KB r w w') (hr : B ≤ r) (hB : B ≤ w.heap.size) : Below B w w' := ⟨h.os, h.tape, h.output, h.size, fun k hk => h.block k (by omega) (by simp; omega)⟩
/-- The first fault. -/
def faultV (a : Nat) (c : Int) : Value := .iface 70 (.agg #[.int .i64 a, .int .i64 c])
def Wrong (a : Nat) (c : Int) (e : Ending) : Prop := e = .panicked [{ v := faultV a c, recovered := false }]
set_option maxHeartbeats 1000000 in
theorem wrong_any (r a : Nat) (c : Int) (w : World) : Calls Tryz.prog 33 #[.pointer (some ⟨r, 0, none⟩), .int .i64 a, .int .i64 c] w fun e w' => Wrong a c e ∧ w = w' := by
  go_enter Tryz.func33, Tryz.ntmps33
  go_wp2_with fail
  exact ⟨rfl, rfl, rfl⟩
set_option maxHeartbeats 1000000 in
theorem next_end (r : Nat) (s : ByteArray) (z : Nat) (w : World) (h : RD r s s.size z w) (_hs : s.size ≤ 1048576) : Calls Tryz.prog 49 #[.pointer (some ⟨r, 0, none⟩)] w fun e w' => e = .returned (.tuple #[.int .u8 0, .bool false]) ∧ ∃ n, w' = w.drewN n := by
  obtain ⟨c0, c1, c2, f1, f2⟩ := h.cells
  clear h
  go_enter Tryz.func49, Tryz.ntmps49
  go_wp2_with fail
  go_quiet (fail)
  go_wp2_with fail
  go_ret2
  exact ⟨rfl, nq, rfl⟩
set_option maxHeartbeats 1000000 in
theorem next_byte (r : Nat) (s : ByteArray) (a z : Nat) (w : World) (h : RD r s a z w) (_hs : s.size ≤ 1048576) (ha : a < s.size) : Calls Tryz.prog 49 #[.pointer (some ⟨r, 0, none⟩)] w fun e w' => e = .returned (.tuple #[.int .u8 s[a].toNat, .bool true]) ∧ ∃ n, w' = w.drewN n := by
  obtain ⟨c0, c1, c2, f1, f2⟩ := h.cells
  clear h
  have hne : ((a : Int) == (s.size : Int)) = false := by
    simp only [beq_eq_false_iff_ne, ne_eq]; omega
  go_enter Tryz.func49, Tryz.ntmps49
  go_wp2_with fail
  go_quiet (fail)
  go_wp2_with fail
  go_quiet (fail)
  go_wp2_with fail
  go_ret2
  exact ⟨rfl, _, World.drewN_drewN w _ _⟩
end

section
open Go.RowKit
set_option maxRecDepth 100000
mutual
def nodesV : VT → Nat
  | .list l => 1 + nodesVs l
  | .unit => 1
  | .truth _ => 1
  | .int _ => 1
  | .text _ => 1
def nodesVs : List VT → Nat
  | [] => 0
  | t :: r => nodesV t + nodesVs r
end
mutual
def depV : VT → Nat
  | .list l => depVs l
  | .unit => 0
  | .truth _ => 0
  | .int _ => 0
  | .text _ => 0
def depVs : List VT → Nat
  | [] => 0
  | t :: r => max (1 + depV t) (depVs r)
end
mutual
def plainOf : VT → PT
  | .unit => .mk 1 0 ⟨#[]⟩ []
  | .truth b => .mk 2 (if b then 1 else 0) ⟨#[]⟩ []
  | .int n => .mk 3 n ⟨#[]⟩ []
  | .text s => .mk 4 0 s []
  | .list l => .mk 5 0 ⟨#[]⟩ (plainsOf l)
def plainsOf : List VT → List PT
  | [] => []
  | t :: r => plainOf t :: plainsOf r
end
mutual
def txtV : VT → Prop
  | .text s => s.size ≤ 140737488355328
  | .list l => txtVs l
  | .unit => True
  | .truth _ => True
  | .int _ => True
def txtVs : List VT → Prop
  | [] => True
  | t :: r => txtV t ∧ txtVs r
end
/-- The counter lies in block r. -/
def CN (r c : Nat) (w : World) : Prop := w.heap[r]? = some (.cells #[.int .i64 c] 3 (0, 0))
theorem CN.cell {r c : Nat} {w : World} (h : CN r c w) : w.cell? ⟨r, 0, none⟩ = some (.int .i64 c) ∧ w.frozen? ⟨r, 0, none⟩ = false := by
  refine ⟨?_, Lib.frozen_of_heap h 0⟩
  rw [Lib.cell_of_heap h]; rfl
theorem CN.lt {r c : Nat} {w : World} (h : CN r c w) : r < w.heap.size := (Array.getElem?_eq_some_iff.1 h).1
theorem CN.to {r c : Nat} {w : World} (h : CN r c w) (c' : Nat) : CN r c' (w.setCell ⟨r, 0, none⟩ (.int .i64 c')) := by
  have hlt := h.lt
  unfold CN at *
  simp only [World.setCell, Array.getElem?_modify, h]
  simp
theorem CN.heap {r c : Nat} {w w' : World} (h : CN r c w) (hh : w'.heap[r]? = w.heap[r]?) : CN r c w' := by
  unfold CN at *
  rw [hh]; exact h
def PlainR (r c : Nat) (t : VT) (w : World) (e : Ending) (w' : World) : Prop :=
  ∃ cs bs, e = .returned (.tuple #[.agg cs.toArray, .bool true]) ∧ HasP w' (plainOf t) cs bs ∧ (∀ g ∈ bs, w.heap.size ≤ g) ∧ CN r (c + nodesV t) w' ∧ KB r w w'
def PlainFor (t : VT) : Prop := ∀ (w : World) (v : Value) (vb : List Nat) (r c deep : Nat), RepV w t v vb → r ∉ vb → CN r c w → c + nodesV t ≤ 70000 → deep + depV t ≤ 70 → txtV t →
  Calls Tryz.prog 70 #[v, .pointer (some ⟨r, 0, none⟩), .int .i64 deep] w (PlainR r c t w)
theorem pl_leaf {w : World} {r c : Nat} {t : VT} {k n : Int} {s : ByteArray} (hr : CN r c w) (hn : nodesV t = 1) (hp : plainOf t = .mk k n s []) (hs : s.size ≤ 140737488355328) :
    PlainR r c t w (.returned (.tuple #[.agg #[.int .i64 k, .int .i64 n, .string s, .slice none 0 0], .bool true])) ((w.setCell ⟨r, 0, none⟩ (.int .i64 ((c : Int) + 1))).alloc (.cells #[.int .i64 k, .int .i64 n, .string s, .slice none 0 0] 27)) := by
  have h1 := hr.to (c + 1)
  have h2 : KB r w (w.setCell ⟨r, 0, none⟩ (.int .i64 ((c : Int) + 1))) := KB.set 0 _
  refine ⟨[.int .i64 k, .int .i64 n, .string s, .slice none 0 0], [], rfl, ?_, by simp, ?_, h2.trans (KB.of_below (alloc_below _ _))⟩
  · rw [hp]
    exact ⟨hs, by simp, none, 0, rfl, .inl ⟨rfl, rfl⟩⟩
  · rw [hn]
    exact h1.heap (Below.heap_alloc _ _ _ h1.lt)
theorem PlainR.alloc {w W : World} {r c : Nat} {t : VT} {e : Ending} (h : PlainR r c t w e W) (o : Obj) : PlainR r c t w e (W.alloc o) := by
  obtain ⟨cs, bs, he, h1, h2, h3, h4⟩ := h
  exact ⟨cs, bs, he, HasP.keep _ _ _ (fun g hg => Below.heap_alloc _ _ _ (HasP.lt _ _ _ h1 g hg)) h1, h2, h3.heap (Below.heap_alloc _ _ _ h3.lt), h4.trans (KB.of_below (alloc_below _ _))⟩
set_option maxHeartbeats 1000000 in
theorem pl_unit : PlainFor .unit := by
  intro w v vb r c deep hv hrv hr hc hd ht
  obtain ⟨rfl, rfl⟩ := hv
  have hc' : c + 1 ≤ 70000 := hc
  have hd' : deep ≤ 70 := hd
  have t1 : ¬ (70000 < (c : Int) + 1) := by omega
  have t2 : ¬ (70 < (deep : Int)) := by omega
  clear hc' hd'
  obtain ⟨k0, k1⟩ := hr.cell
  have HR := Lib.hid hr
  have HT := Lib.hid ht
  have hrl := hr.lt
  clear hr hc hd ht hrv
  go_enter Tryz.func70, Tryz.ntmps70
  go_wp2_with fail
  exact bodyPost_ret (v := .tuple #[.agg #[.int .i64 1, .int .i64 0, .string ⟨#[]⟩, .slice none 0 0], .bool true]) (by simp [results, Tryz.results70, go_sem]) rfl (PlainR.alloc (pl_leaf HR.out rfl rfl (show (⟨#[]⟩ : ByteArray).size ≤ 140737488355328 by decide)) _)
set_option maxHeartbeats 1000000 in
theorem pl_int (n : Int) : PlainFor (.int n) := by
  intro w v vb r c deep hv hrv hr hc hd ht
  obtain ⟨rfl, rfl⟩ := hv
  have hc' : c + 1 ≤ 70000 := hc
  have hd' : deep ≤ 70 := hd
  have t1 : ¬ (70000 < (c : Int) + 1) := by omega
  have t2 : ¬ (70 < (deep : Int)) := by omega
  clear hc' hd'
  obtain ⟨k0, k1⟩ := hr.cell
  have HR := Lib.hid hr
  have HT := Lib.hid ht
  have hrl := hr.lt
  clear hr hc hd ht hrv
  go_enter Tryz.func70, Tryz.ntmps70
  go_wp2_with fail
  exact bodyPost_ret (v := .tuple #[.agg #[.int .i64 3, .int .i64 n, .string ⟨#[]⟩, .slice none 0 0], .bool true]) (by simp [results, Tryz.results70, go_sem]) rfl (pl_leaf HR.out rfl rfl (show (⟨#[]⟩ : ByteArray).size ≤ 140737488355328 by decide))
set_option maxHeartbeats 1000000 in
theorem pl_text (s : ByteArray) : PlainFor (.text s) := by
  intro w v vb r c deep hv hrv hr hc hd ht
  obtain ⟨rfl, rfl⟩ := hv
  have hc' : c + 1 ≤ 70000 := hc
  have hd' : deep ≤ 70 := hd
  have t1 : ¬ (70000 < (c : Int) + 1) := by omega
  have t2 : ¬ (70 < (deep : Int)) := by omega
  clear hc' hd'
  obtain ⟨k0, k1⟩ := hr.cell
  have HR := Lib.hid hr
  have HT := Lib.hid ht
  have hrl := hr.lt
  clear hr hc hd ht hrv
  go_enter Tryz.func70, Tryz.ntmps70
  go_wp2_with fail
  exact bodyPost_ret (v := .tuple #[.agg #[.int .i64 4, .int .i64 0, .string s, .slice none 0 0], .bool true]) (by simp [results, Tryz.results70, go_sem]) rfl (pl_leaf HR.out rfl rfl HT.out)
set_option maxHeartbeats 1000000 in
theorem pl_yes : PlainFor (.truth true) := by
  intro w v vb r c deep hv hrv hr hc hd ht
  obtain ⟨rfl, rfl⟩ := hv
  have hc' : c + 1 ≤ 70000 := hc
  have hd' : deep ≤ 70 := hd
  have t1 : ¬ (70000 < (c : Int) + 1) := by omega
  have t2 : ¬ (70 < (deep : Int)) := by omega
  clear hc' hd'
  obtain ⟨k0, k1⟩ := hr.cell
  have HR := Lib.hid hr
  have HT := Lib.hid ht
  have hrl := hr.lt
  clear hr hc hd ht hrv
  go_enter Tryz.func70, Tryz.ntmps70
  go_wp2_with fail
  exact bodyPost_ret (v := .tuple #[.agg #[.int .i64 2, .int .i64 1, .string ⟨#[]⟩, .slice none 0 0], .bool true]) (by simp [results, Tryz.results70, go_sem]) rfl (PlainR.alloc (pl_leaf HR.out rfl rfl (show (⟨#[]⟩ : ByteArray).size ≤ 140737488355328 by decide)) _)
set_option maxHeartbeats 1000000 in
theorem pl_no : PlainFor (.truth false) := by
  intro w v vb r c deep hv hrv hr hc hd ht
  obtain ⟨rfl, rfl⟩ := hv
  have hc' : c + 1 ≤ 70000 := hc
  have hd' : deep ≤ 70 := hd
  have t1 : ¬ (70000 < (c : Int) + 1) := by omega
  have t2 : ¬ (70 < (deep : Int)) := by omega
  clear hc' hd'
  obtain ⟨k0, k1⟩ := hr.cell
  have HR := Lib.hid hr
  have HT := Lib.hid ht
  have hrl := hr.lt
  clear hr hc hd ht hrv
  go_enter Tryz.func70, Tryz.ntmps70
  go_wp2_with fail
  exact bodyPost_ret (v := .tuple #[.agg #[.int .i64 2, .int .i64 0, .string ⟨#[]⟩, .slice none 0 0], .bool true]) (by simp [results, Tryz.results70, go_sem]) rfl (PlainR.alloc (pl_leaf HR.out rfl rfl (show (⟨#[]⟩ : ByteArray).size ≤ 140737488355328 by decide)) _)
end

section
open Go.RowKit
set_option maxRecDepth 100000
theorem info24 : (Tryz.prog.info? 27).map (fun i => (i.zero, i.size, i.bytes)) = some (some (.agg #[.int .i64 0, .int .i64 0, .string ⟨#[]⟩, .slice none 0 0]), 4, 56) := by kernel_rfl
theorem nodesVs_take : ∀ (l : List VT) (i : Nat) (h : i < l.length), nodesVs (l.take (i + 1)) = nodesVs (l.take i) + nodesV l[i]
  | t :: r, 0, h => by simp [nodesVs]
  | t :: r, i + 1, h => by
    simp only [List.take_succ_cons, nodesVs, List.getElem_cons_succ]
    rw [nodesVs_take r i (by simpa using h)]; omega
theorem nodesVs_le : ∀ (l : List VT) (i : Nat), nodesVs (l.take i) ≤ nodesVs l
  | [], i => by simp
  | t :: r, 0 => by simp [nodesVs]
  | t :: r, i + 1 => by simp only [List.take_succ_cons, nodesVs]; have := nodesVs_le r i; omega
theorem len_le_nodes : ∀ l : List VT, l.length ≤ nodesVs l
  | [] => Nat.le_refl _
  | t :: r => by
    have := len_le_nodes r
    have h1 : 1 ≤ nodesV t := by cases t <;> simp [nodesV]
    simp only [List.length_cons, nodesVs]; omega
theorem depVs_get : ∀ (l : List VT) (i : Nat) (h : i < l.length), 1 + depV l[i] ≤ depVs l
  | t :: r, 0, h => by simp only [depVs, List.getElem_cons_zero]; omega
  | t :: r, i + 1, h => by
    have := depVs_get r i (by simpa using h)
    simp only [depVs, List.getElem_cons_succ]; omega
theorem txtVs_get : ∀ (l : List VT) (i : Nat) (h : i < l.length), txtVs l → txtV l[i]
  | t :: r, 0, h, ht => ht.1
  | t :: r, i + 1, h, ht => txtVs_get r i (by simpa using h) ht.2
theorem plainsOf_snoc : ∀ (l : List VT) (i : Nat) (h : i < l.length), plainsOf (l.take (i + 1)) = plainsOf (l.take i) ++ [plainOf l[i]]
  | t :: r, 0, h => by simp [plainsOf]
  | t :: r, i + 1, h => by
    simp only [List.take_succ_cons, plainsOf, List.getElem_cons_succ, List.cons_append]
    rw [plainsOf_snoc r i (by simpa using h)]
theorem plainsOf_len : ∀ l : List VT, (plainsOf l).length = l.length
  | [] => rfl
  | t :: r => by simp [plainsOf, plainsOf_len r]
theorem four_new (w : World) (a b c d : Value) (t : TypeId) : ∀ j u, [a, b, c, d][j]? = some u → (w.alloc (.cells #[a, b, c, d] t)).cell? ((⟨w.heap.size, 0, none⟩ : Addr).add j) = some u := by
  intro j u hu
  rw [show (⟨w.heap.size, 0, none⟩ : Addr).add j = ⟨w.heap.size, j, none⟩ from by unfold Addr.add; split <;> simp_all]
  rw [cell_of_row _ _ j _ _ _ (heap_alloc_new w _)]
  simpa using hu
theorem own_slice {w : World} {base e size n : Nat} {v : Value} {xs : List Value} (h : w.ownsRow base e size v n xs) : ∃ la lc, v = .slice la n lc := by
  rcases h.2 with ⟨rfl, rfl⟩ | ⟨g, cap, cur, rfl, _⟩
  · exact ⟨none, 0, rfl⟩
  · exact ⟨_, cap, rfl⟩
theorem HasP.form {w : World} {p : PT} {cs : List Value} {bs : List Nat} (h : HasP w p cs bs) : ∃ k n s la ln lc, cs = [.int .i64 k, .int .i64 n, .string s, .slice la ln lc] := by
  cases p with
  | mk k n s l =>
    simp only [HasP] at h
    obtain ⟨h1, h2, la, lc, rfl, h4⟩ := h
    exact ⟨k, n, s, la, _, lc, rfl⟩
theorem KB.cell {r b j : Nat} {w w' : World} {v : Value} (h : KB r w w') (hc : w.cell? ⟨b, j, none⟩ = some v) (hb : b ≠ r) : w'.cell? ⟨b, j, none⟩ = some v := by
  rw [cellOf_heap (h.block b (cell_lt hc) (by simpa using hb))]; exact hc
theorem heapcell {w : World} {b : Nat} {cs : Array Value} {t : TypeId} (h : w.heap[b]? = some (.cells cs t (0, 0))) (j : Nat) : w.cell? ⟨b, j, none⟩ = cs[j]? ∧ w.frozen? ⟨b, j, none⟩ = false := ⟨Lib.cell_of_heap h j, Lib.frozen_of_heap h j⟩
theorem heap_set {w : World} {b j : Nat} {cs : Array Value} {t : TypeId} (h : w.heap[b]? = some (.cells cs t (0, 0))) (v : Value) : (w.setCell ⟨b, j, none⟩ v).heap[b]? = some (.cells (cs.set! j v) t (0, 0)) := by
  have hlt : b < w.heap.size := (Array.getElem?_eq_some_iff.1 h).1
  simp only [World.setCell, Array.getElem?_modify, h]
  simp
theorem heap_set_ne {w : World} {b j g : Nat} (v : Value) (hg : g ≠ b) : (w.setCell ⟨b, j, none⟩ v).heap[g]? = w.heap[g]? := Below.heap_setCell _ _ _ _ (fun e => hg e)
set_option maxHeartbeats 4000000 in
theorem pl_list (l : List VT) (ih : ∀ t ∈ l, PlainFor t) : PlainFor (.list l) := by
  intro w v vb r c deep hv hrv hr hc hd ht
  obtain ⟨sv, vs, bl, rfl, hown, hrep, rfl⟩ := hv
  obtain ⟨la, lc, rfl, hmx, hca⟩ := own_cells hown
  have hc' : c + 1 + nodesVs l ≤ 70000 := by have : c + (1 + nodesVs l) ≤ 70000 := hc; omega
  have hd' : deep + depVs l ≤ 70 := hd
  have hll := len_le_nodes l
  have t1 : ¬ (70000 < (c : Int) + 1) := by omega
  have t2 : ¬ (70 < (deep : Int)) := by omega
  have t3 : l.length ≤ 70000 := by omega
  have HC' := Lib.hid hc'
  have HD' := Lib.hid hd'
  have HLL := Lib.hid t3
  clear hc' hd' hll t3
  obtain ⟨k0, k1⟩ := hr.cell
  have HR := Lib.hid hr
  have HT : Hid (txtVs l) := Lib.hid ht
  have HI := Lib.hid ih
  have HA := Lib.hid hca
  have HP := Lib.hid hrep
  have HV := Lib.hid hrv
  have hrl := hr.lt
  clear hr hc hd ht hrv ih hca hrep
  obtain ⟨i0, hi, hz0, hz1, hz2⟩ := info_parts info24
  have HZ1 := Lib.hid hz1; clear hz1
  have HZ2 := Lib.hid hz2; clear hz2
  have HZ0 := Lib.hid hz0; clear hz0
  have HI0 := Lib.hid hi; clear hi
  go_enter Tryz.func70, Tryz.ntmps70
  go_wp2_with fail
  have hW1 := HR.out.to (c + 1)
  have hW2 : CN r (c + 1) (((w.setCell ⟨r, 0, none⟩ (.int .i64 ((c : Int) + 1))).alloc (.cells #[.int .i64 0, .int .i64 0, .string ⟨#[]⟩, .slice none 0 0] 27)).alloc (.cells #[.int .i64 5, .int .i64 0, .string ⟨#[]⟩, .slice none 0 0] 27)) := by
    have h1 := hW1.heap (Below.heap_alloc (w.setCell ⟨r, 0, none⟩ (.int .i64 ((c + 1 : Nat) : Int))) (.cells #[.int .i64 0, .int .i64 0, .string ⟨#[]⟩, .slice none 0 0] 27) _ hW1.lt)
    exact h1.heap (Below.heap_alloc _ _ _ h1.lt)
  have hK2 : KB r w (((w.setCell ⟨r, 0, none⟩ (.int .i64 ((c : Int) + 1))).alloc (.cells #[.int .i64 0, .int .i64 0, .string ⟨#[]⟩, .slice none 0 0] 27)).alloc (.cells #[.int .i64 5, .int .i64 0, .string ⟨#[]⟩, .slice none 0 0] 27)) :=
    ((KB.set 0 _).trans (KB.of_below (alloc_below _ _))).trans (KB.of_below (alloc_below _ _))
  have hz6 : (((w.setCell ⟨r, 0, none⟩ (.int .i64 ((c : Int) + 1))).alloc (.cells #[.int .i64 0, .int .i64 0, .string ⟨#[]⟩, .slice none 0 0] 27)).alloc (.cells #[.int .i64 5, .int .i64 0, .string ⟨#[]⟩, .slice none 0 0] 27)).heap[w.heap.size]? = some (.cells #[.int .i64 0, .int .i64 0, .string ⟨#[]⟩, .slice none 0 0] 27 (0, 0)) := by
    rw [Below.heap_alloc _ _ _ (by simp [World.setCell])]
    have := heap_alloc_new (w.setCell ⟨r, 0, none⟩ (.int .i64 ((c : Int) + 1))) (.cells #[.int .i64 0, .int .i64 0, .string ⟨#[]⟩, .slice none 0 0] 27)
    simpa [World.setCell] using this
  have hz14 : (((w.setCell ⟨r, 0, none⟩ (.int .i64 ((c : Int) + 1))).alloc (.cells #[.int .i64 0, .int .i64 0, .string ⟨#[]⟩, .slice none 0 0] 27)).alloc (.cells #[.int .i64 5, .int .i64 0, .string ⟨#[]⟩, .slice none 0 0] 27)).heap[w.heap.size + 1]? = some (.cells #[.int .i64 5, .int .i64 0, .string ⟨#[]⟩, .slice none 0 0] 27 (0, 0)) := by
    have := heap_alloc_new ((w.setCell ⟨r, 0, none⟩ (.int .i64 ((c : Int) + 1))).alloc (.cells #[.int .i64 0, .int .i64 0, .string ⟨#[]⟩, .slice none 0 0] 27)) (.cells #[.int .i64 5, .int .i64 0, .string ⟨#[]⟩, .slice none 0 0] 27)
    simpa [World.setCell] using this
  have hsW : (((w.setCell ⟨r, 0, none⟩ (.int .i64 ((c : Int) + 1))).alloc (.cells #[.int .i64 0, .int .i64 0, .string ⟨#[]⟩, .slice none 0 0] 27)).alloc (.cells #[.int .i64 5, .int .i64 0, .string ⟨#[]⟩, .slice none 0 0] 27)).heap.size = w.heap.size + 2 := by simp [World.setCell]
  clear hW1
  generalize (((w.setCell ⟨r, 0, none⟩ (.int .i64 ((c : Int) + 1))).alloc (.cells #[.int .i64 0, .int .i64 0, .string ⟨#[]⟩, .slice none 0 0] 27)).alloc (.cells #[.int .i64 5, .int .i64 0, .string ⟨#[]⟩, .slice none 0 0] 27)) = W at hW2 hK2 hz6 hz14 hsW ⊢
  obtain ⟨R, hR⟩ : ∃ R, R = w.heap.size := ⟨_, rfl⟩
  simp only [← hR] at hz6 hz14 hsW ⊢
  have HRR := Lib.hid hR
  have HRL : Hid (r < R) := Lib.hid (by rw [hR]; exact hrl)
  clear hR hrl k0 k1
  have HSW := Lib.hid hsW
  clear hsW
  have HW2 := Lib.hid hW2
  have HK2 := Lib.hid hK2
  have HZ6 := Lib.hid hz6
  have HZ14 := Lib.hid hz14
  clear hW2 hK2 hz6 hz14
  go_loopw [15] (fun iv wr => ∃ (i : Nat) (lv : Value) (xs : List Value) (bs : List Nat), i ≤ l.length ∧ iv = .int .i64 i ∧ Hid (CN r (c + 1 + nodesVs (l.take i)) wr) ∧ Hid (KB r w wr) ∧
      Hid (wr.heap[R]? = some (.cells #[.int .i64 0, .int .i64 0, .string ⟨#[]⟩, .slice none 0 0] 27 (0, 0))) ∧ Hid (wr.heap[R + 1]? = some (.cells #[.int .i64 5, .int .i64 0, .string ⟨#[]⟩, lv] 27 (0, 0))) ∧
      Hid (wr.ownsRow (R + 2) 27 4 lv i xs) ∧ Hid (HasPs wr (plainsOf (l.take i)) xs bs) ∧ Hid (∀ g ∈ bs, R + 2 ≤ g ∧ lv.ownBlock ≠ some g) ∧ Hid (R + 2 ≤ wr.heap.size))
    (fun iv _ => l.length - (intOf iv).toNat)
  case atStart => exact ⟨0, .slice none 0 0, [], [], by omega, rfl, Lib.hid (by simpa [nodesVs] using HW2.out), HK2, HZ6, HZ14, Lib.hid ⟨rfl, .inl ⟨rfl, rfl⟩⟩, Lib.hid ⟨rfl, rfl⟩, Lib.hid (by simp), Lib.hid (by rw [HSW.out]; omega)⟩
  case round =>
    obtain ⟨i, lv, xs, bs, hil, rfl, hcn, hkb, h6, h14, how, hhas, hbs, hsz⟩ := hrel
    by_cases hlt : i < l.length
    · obtain ⟨g, rfl, hg⟩ := HA.out (by omega)
      obtain ⟨v, vb1, hvi, hrv, hsub⟩ := RepVs.get l vs bl HP.out i hlt
      obtain ⟨ty, u, rfl⟩ := hrv.iface
      have hgr : g ≠ r := fun e => HV.out (by simp [Value.ownBlock, e])
      have hx := KB.cell hkb.out (hg i _ hvi) hgr
      have hrr : RepV wr l[i] (.iface ty u) vb1 := RepV.keep _ _ _ (fun b hb => hkb.out.block b (RepV.lt _ _ _ hrv b hb) (by intro e; simp at e; subst e; exact HV.out (by simp [hsub _ hb]))) hrv
      have hcall : Calls Tryz.prog 70 #[.iface ty u, .pointer (some ⟨r, 0, none⟩), .int .i64 ((deep : Int) + 1)] wr (PlainR r (c + 1 + nodesVs (l.take i)) l[i] wr) := by
        have h1 := nodesVs_take l i hlt
        have h2 := nodesVs_le l (i + 1)
        have h3 := HC'.out
        have h4 := depVs_get l i hlt
        have h5 := HD'.out
        exact HI.out l[i] (List.getElem_mem hlt) wr (.iface ty u) vb1 r _ (deep + 1) hrr (fun hm => HV.out (by simp [hsub _ hm])) hcn.out (by omega) (by omega) (txtVs_get l i hlt HT.out)
      have HCALL := Lib.hid hcall
      have HG := Lib.hid hg
      clear hcall hrr hrv hsub hvi hgr hg
      go_wp2_with fail
      refine HCALL.out.mono ?_
      rintro e w1 ⟨cs, cb, rfl, hh, hge, hcn1, hkb1⟩
      obtain ⟨k1, n1, s1, la1, ln1, lc1, rfl⟩ := hh.form
      have HH := Lib.hid hh
      have HGE := Lib.hid hge
      have HCN := Lib.hid hcn1
      have HKB := Lib.hid hkb1
      have hrR : r ≠ R := by have := HRL.out; omega
      have hrR1 : r ≠ R + 1 := by have := HRL.out; omega
      have hs1 := hsz.out
      have h6' : w1.heap[R]? = some (.cells #[.int .i64 0, .int .i64 0, .string ⟨#[]⟩, .slice none 0 0] 27 (0, 0)) := (hkb1.block R (by omega) (by simp; omega)).trans h6.out
      have h14' : w1.heap[R + 1]? = some (.cells #[.int .i64 5, .int .i64 0, .string ⟨#[]⟩, lv] 27 (0, 0)) := (hkb1.block (R + 1) (by omega) (by simp; omega)).trans h14.out
      have c13 : (w1.alloc (.cells #[.int .i64 k1, .int .i64 n1, .string s1, .slice la1 ln1 lc1] 27)).cell? ⟨R + 1, 3, none⟩ = some lv := (cellOf_heap (Below.heap_alloc _ _ _ (Array.getElem?_eq_some_iff.1 h14').1)).trans (heapcell h14' 3).1
      have H6 := Lib.hid h6'
      have H14 := Lib.hid h14'
      have HOW : Hid (w1.ownsRow (R + 2) 27 4 lv i xs) := ownsRow_keep how.out (fun g hg => hkb1.block g (how.out.lt g hg).2 (by have := (how.out.lt g hg).1; have := HRL.out; simp; omega))
      clear hh hge hcn1 hkb1 hrR hrR1 h6' h14' hs1
      clear t1 t2 hx
      go_wp2_with (at_builtin; refine wpList_append_own_at _ rfl _ _ 25 rfl (R + 2) 27 i0 _ 4 56 Tryz.underlying25 HI0.out HZ0.out HZ1.out HZ2.out rfl (by decide) _ _ _ rfl ((HOW.out.alloc _).alloc _) ⟨w1.heap.size + 1, 0, none⟩ 1 1 [.int .i64 k1, .int .i64 n1, .string s1, .slice la1 ln1 lc1] rfl rfl ?c1 ?c2 ?c3 ?c4 ?c5 ?_)
      case c1 =>
        have h1 := four_new (w1.alloc (.cells #[.int .i64 k1, .int .i64 n1, .string s1, .slice la1 ln1 lc1] 27)) (.int .i64 k1) (.int .i64 n1) (.string s1) (.slice la1 ln1 lc1) 27
        rw [show (w1.alloc (.cells #[.int .i64 k1, .int .i64 n1, .string s1, .slice la1 ln1 lc1] 27)).heap.size = w1.heap.size + 1 from by simp] at h1
        exact h1
      case c2 => intro u hu; simp at hu; rcases hu with rfl | rfl | rfl | rfl <;> rfl
      case c3 => have := HLL.out; unfold maxLen; omega
      case c4 => have := HLL.out; omega
      case c5 => have := hsz.out; have := HKB.out.size; simp; omega
      intro lv' w3 hown3 hgrow _ hblk
      obtain ⟨la', lc', rfl⟩ := own_slice hown3
      have hs3 := hgrow.size
      simp at hs3
      have hlo : ∀ b, lv.ownBlock = some b → R + 2 ≤ b ∧ b < w1.heap.size := fun b hb => HOW.out.lt b hb
      have hold : ∀ b, b < w1.heap.size → lv.ownBlock ≠ some b → w3.heap[b]? = w1.heap[b]? := fun b hb hn =>
        ((hgrow.block b (by simp; omega) (fun e => hn e.symm)).trans (Below.heap_alloc _ _ _ (by simp; omega))).trans (Below.heap_alloc _ _ _ hb)
      have hR1 := hsz.out
      have hR2 := HKB.out.size
      have H14' : Hid (w3.heap[R + 1]? = some (.cells #[.int .i64 5, .int .i64 0, .string ⟨#[]⟩, lv] 27 (0, 0))) := Lib.hid ((hold (R + 1) (by omega) (fun e => by have := (hlo _ e).1; omega)).trans H14.out)
      have H6' : Hid (w3.heap[R]? = some (.cells #[.int .i64 0, .int .i64 0, .string ⟨#[]⟩, .slice none 0 0] 27 (0, 0))) := Lib.hid ((hold R (by omega) (fun e => by have := (hlo _ e).1; omega)).trans H6.out)
      have c33 := (heapcell H14'.out 3).1
      have f33 := (heapcell H14'.out 3).2
      have c33' : w3.cell? ⟨R + 1, 3, none⟩ = some lv := c33
      have HOLD := Lib.hid hold
      have HLO := Lib.hid hlo
      have HGR := Lib.hid hgrow
      have HOW3 := Lib.hid hown3
      have HBLK := Lib.hid hblk
      have HS3 := Lib.hid hs3
      clear hold hlo hgrow hown3 hblk hs3 hR1 hR2 c33 c13
      go_wp2_with fail
      go_roundw
      case rel =>
        have hR1 := hsz.out
        have hR2 := HKB.out.size
        have hrR := HRL.out
        have hRw := HRR.out
        have hs3 := HS3.out
        have hlo := HLO.out
        have hlo' : ∀ b, lv.ownBlock = some b → b < wr.heap.size := fun b hb => (how.out.lt b hb).2
        have hold := HOLD.out
        have hgrow := HGR.out
        have hkb1 := hkb.out.trans HKB.out
        have h4 : ∀ b, b < w1.heap.size → b ≠ R + 1 → lv.ownBlock ≠ some b → (w3.setCell ⟨R + 1, 3, none⟩ (.slice la' (i + 1) lc')).heap[b]? = w1.heap[b]? := fun b hb hb1 hn =>
          (heap_set_ne _ hb1).trans (hold b hb hn)
        have hcn4 : CN r (c + 1 + nodesVs (l.take (i + 1))) (w3.setCell ⟨R + 1, 3, none⟩ (.slice la' (i + 1) lc')) := by
          rw [nodesVs_take l i hlt, ← Nat.add_assoc]
          exact HCN.out.heap (h4 r HCN.out.lt (by omega) (fun e => by have := (hlo _ e).1; omega))
        have hkb4 : KB r w (w3.setCell ⟨R + 1, 3, none⟩ (.slice la' (i + 1) lc')) := by
          refine ⟨hgrow.os.trans hkb1.os, hgrow.tape.trans hkb1.tape, hgrow.output.trans hkb1.output, by have := hkb1.size; simp [World.setCell]; omega, fun b hb hbr => ?_⟩
          rw [h4 b (by have := hkb1.size; omega) (by omega) (fun e => by have := (hlo _ e).1; omega)]
          exact hkb1.block b hb hbr
        have hh4 : HasPs (w3.setCell ⟨R + 1, 3, none⟩ (.slice la' (i + 1) lc')) (plainsOf (l.take (i + 1))) (xs ++ [.int .i64 k1, .int .i64 n1, .string s1, .slice la1 ln1 lc1]) (bs ++ cb) := by
          rw [plainsOf_snoc l i hlt]
          refine HasPs.snoc _ _ _ _ _ _ (HasPs.keep _ _ _ (fun b hb => ?_) hhas.out) (HasP.keep _ _ _ (fun b hb => ?_) HH.out)
          · have h5 := hbs.out b hb
            have h6 := HasPs.lt _ _ _ hhas.out b hb
            rw [h4 b (by omega) (by omega) h5.2]
            exact HKB.out.block b h6 (by simp; omega)
          · have h5 := HGE.out b hb
            have h6 := HasP.lt _ _ _ HH.out b hb
            exact h4 b h6 (by omega) (fun e => by have := hlo' b e; omega)
        refine ⟨i + 1, .slice la' (i + 1) lc', xs ++ [.int .i64 k1, .int .i64 n1, .string s1, .slice la1 ln1 lc1], bs ++ cb, by omega, ?_, Lib.hid hcn4, Lib.hid hkb4, Lib.hid ((heap_set_ne _ (by omega)).trans H6'.out), Lib.hid (heap_set H14'.out _), Lib.hid (ownsRow_keep HOW3.out (fun b hb => heap_set_ne _ (by have := (HOW3.out.lt b hb).1; omega))), Lib.hid hh4, Lib.hid (fun b hb => ?_), Lib.hid (by simp [World.setCell]; omega)⟩
        · have := HLL.out
          go_num
        · rcases List.mem_append.1 hb with hb | hb
          · have h5 := hbs.out b hb
            have h6 := HasPs.lt _ _ _ hhas.out b hb
            refine ⟨h5.1, fun e => ?_⟩
            rcases HBLK.out with h7 | h7
            · exact h5.2 (h7.symm.trans e)
            · rw [h7] at e; simp at e; omega
          · have h5 := HGE.out b hb
            have h6 := HasP.lt _ _ _ HH.out b hb
            refine ⟨by omega, fun e => ?_⟩
            rcases HBLK.out with h7 | h7
            · have := hlo' b (h7.symm.trans e); omega
            · rw [h7] at e; simp at e; omega
      case measure =>
        have := HLL.out
        simp [intOf]; omega
    · obtain rfl : i = l.length := by omega
      obtain ⟨la', lc', rfl⟩ := own_slice how.out
      have hlo : ∀ b, (Value.slice la' l.length lc').ownBlock = some b → R + 2 ≤ b ∧ b < wr.heap.size := fun b hb => how.out.lt b hb
      have p0 := (heapcell h6.out 0)
      have p1 := (heapcell h6.out 1)
      have p2 := (heapcell h6.out 2)
      have p3 := (heapcell h6.out 3)
      have q0 := (heapcell h14.out 0).1
      have q1 := (heapcell h14.out 1).1
      have q2 := (heapcell h14.out 2).1
      have q3 := (heapcell h14.out 3).1
      obtain ⟨p0, f0⟩ := p0
      obtain ⟨p1, f1⟩ := p1
      obtain ⟨p2, f2⟩ := p2
      obtain ⟨p3, f3⟩ := p3
      have HLO := Lib.hid hlo
      clear t1 t2 hlo
      go_wp2_with fail
      refine bodyPost_ret (v := .tuple #[.agg #[.int .i64 5, .int .i64 0, .string ⟨#[]⟩, .slice la' l.length lc'], .bool true]) (by simp [results, Tryz.results70, go_sem, p0, p1, p2, p3]) rfl ?_
      have hR1 := hsz.out
      have hrR := HRL.out
      have hRw := HRR.out
      have hw4 : ∀ b, b ≠ R → ((((wr.setCell ⟨R, 0, none⟩ (.int .i64 5)).setCell ⟨R, 1, none⟩ (.int .i64 0)).setCell ⟨R, 2, none⟩ (.string ⟨#[]⟩)).setCell ⟨R, 3, none⟩ (.slice la' l.length lc')).heap[b]? = wr.heap[b]? := fun b hb => by
        rw [heap_set_ne _ hb, heap_set_ne _ hb, heap_set_ne _ hb, heap_set_ne _ hb]
      have hpl := plainsOf_len l
      have hcn4 : CN r (c + nodesV (.list l)) ((((wr.setCell ⟨R, 0, none⟩ (.int .i64 5)).setCell ⟨R, 1, none⟩ (.int .i64 0)).setCell ⟨R, 2, none⟩ (.string ⟨#[]⟩)).setCell ⟨R, 3, none⟩ (.slice la' l.length lc')) := by
        have h1 := hcn.out
        rw [List.take_length] at h1
        have h2 : c + nodesV (.list l) = c + 1 + nodesVs l := by simp only [nodesV]; omega
        rw [h2]
        exact h1.heap (hw4 r (by omega))
      have hkb4 : KB r w ((((wr.setCell ⟨R, 0, none⟩ (.int .i64 5)).setCell ⟨R, 1, none⟩ (.int .i64 0)).setCell ⟨R, 2, none⟩ (.string ⟨#[]⟩)).setCell ⟨R, 3, none⟩ (.slice la' l.length lc')) :=
        ⟨hkb.out.os, hkb.out.tape, hkb.out.output, by have := hkb.out.size; simpa [World.setCell] using this, fun b hb hbr => (hw4 b (by omega)).trans (hkb.out.block b hb hbr)⟩
      have hh := hhas.out
      rw [List.take_length] at hh
      have hh4 := HasPs.keep (w' := (((wr.setCell ⟨R, 0, none⟩ (.int .i64 5)).setCell ⟨R, 1, none⟩ (.int .i64 0)).setCell ⟨R, 2, none⟩ (.string ⟨#[]⟩)).setCell ⟨R, 3, none⟩ (.slice la' l.length lc')) _ _ _ (fun b hb => hw4 b (by have := (hbs.out b hb).1; omega)) hh
      have how4 := ownsRow_keep (w' := (((wr.setCell ⟨R, 0, none⟩ (.int .i64 5)).setCell ⟨R, 1, none⟩ (.int .i64 0)).setCell ⟨R, 2, none⟩ (.string ⟨#[]⟩)).setCell ⟨R, 3, none⟩ (.slice la' l.length lc')) how.out (fun b hb => hw4 b (by have := (how.out.lt b hb).1; omega))
      have hln := HLL.out
      by_cases hl0 : l = []
      · subst hl0
        obtain ⟨rfl, rfl⟩ := hh
        exact ⟨[.int .i64 5, .int .i64 0, .string ⟨#[]⟩, .slice la' 0 lc'], [], rfl, ⟨by decide, by simp [plainsOf], la', lc', rfl, .inl ⟨rfl, rfl⟩⟩, by simp, hcn4, hkb4⟩
      · have hpos : 0 < l.length := List.length_pos_iff.2 hl0
        rcases how4.2 with ⟨he, _⟩ | ⟨g, cap, cur, he, hbase, _⟩
        · simp only [Value.slice.injEq] at he; omega
        · simp only [Value.slice.injEq, true_and] at he
          obtain ⟨rfl, rfl⟩ := he
          have hcell := how4.cells (g := g) rfl
          refine ⟨[.int .i64 5, .int .i64 0, .string ⟨#[]⟩, .slice (some ⟨g, 0, none⟩) l.length lc'], g :: bs, rfl, ⟨by decide, by rw [hpl]; omega, some ⟨g, 0, none⟩, lc', by rw [hpl], .inr ⟨g, xs, bs, by intro e; have := congrArg List.length e; rw [hpl] at this; simp at this; exact hl0 this, rfl, fun j v hv => ?_, hh4, rfl⟩⟩, fun b hb => ?_, hcn4, hkb4⟩
          · have := hcell j v hv
            rwa [show (⟨g, 0, none⟩ : Addr).add j = ⟨g, j, none⟩ from by unfold Addr.add; split <;> simp_all] at this
          · rcases List.mem_cons.1 hb with rfl | hb
            · omega
            · have := (hbs.out b hb).1; omega
mutual
theorem plain_any : ∀ t : VT, PlainFor t
  | .unit => pl_unit
  | .truth true => pl_yes
  | .truth false => pl_no
  | .int n => pl_int n
  | .text s => pl_text s
  | .list l => pl_list l (plain_anys l)
theorem plain_anys : ∀ l : List VT, ∀ t ∈ l, PlainFor t
  | [], t, h => by simp at h
  | q :: r, t, h => by
    rcases List.mem_cons.1 h with h | h
    · rw [h]; exact plain_any q
    · exact plain_anys r t h
end
end

section
open Go.RowKit
set_option maxRecDepth 100000
/-- Digits laid from a place on. -/
def DigAt (A U u a : Nat) (wr : World) : Prop := ∃ (cs : Array Value) (suf : List UInt8), wr.heap[A]? = some (.cells cs 119 (0, 0)) ∧ cs.size = 21 ∧ a + suf.length = 21 ∧ (∀ j (h : j < suf.length), cs[a + j]? = some (.int .u8 (suf[j].toNat : Int))) ∧ Lib.decDigits U = Lib.decDigits u ++ suf
def TxtAt (A a : Nat) (l : List UInt8) (wr : World) : Prop := ∃ (cs : Array Value), wr.heap[A]? = some (.cells cs 119 (0, 0)) ∧ cs.size = 21 ∧ a + l.length = 21 ∧ (∀ j (h : j < l.length), cs[a + j]? = some (.int .u8 (l[j].toNat : Int)))
theorem decDigits_big2 {u : Nat} (h : ¬ u < 10) : Lib.decDigits u = Lib.decDigits (u / 10) ++ [UInt8.ofNat (48 + u % 10)] := by rw [Lib.decDigits, dif_neg h]
theorem set_txt {A a : Nat} {cs : Array Value} {l : List UInt8} {wr : World} (h1 : wr.heap[A]? = some (.cells cs 119 (0, 0))) (h2 : cs.size = 21) (h3 : a + 1 + l.length = 21) (h4 : ∀ j (h : j < l.length), cs[a + 1 + j]? = some (.int .u8 (l[j].toNat : Int))) (c : UInt8) :
    TxtAt A a (c :: l) (wr.setCell ⟨A, a, none⟩ (.int .u8 (c.toNat : Int))) := by
  refine ⟨_, heap_set h1 _, by rw [Array.size_set!]; exact h2, by simp; omega, fun j hj => ?_⟩
  cases j with
  | zero =>
    have : a < cs.size := by omega
    simp [Array.set!_eq_setIfInBounds, this]
  | succ j =>
    have := h4 j (by simpa using hj)
    rw [Array.set!_eq_setIfInBounds, Array.getElem?_setIfInBounds_ne (by omega)]
    rw [show a + (j + 1) = a + 1 + j from by omega]
    simpa using this
theorem DigAt.step {A U u a : Nat} {wr : World} (h : DigAt A U u (a + 1) wr) (hu : ¬ u < 10) : DigAt A U (u / 10) a (wr.setCell ⟨A, a, none⟩ (.int .u8 (48 + (u : Int) % 10))) := by
  obtain ⟨cs, suf, h1, h2, h3, h4, h5⟩ := h
  have hc : ((UInt8.ofNat (48 + u % 10)).toNat : Int) = 48 + (u : Int) % 10 := by
    rw [UInt8.toNat_ofNat', Nat.mod_eq_of_lt (by omega)]; omega
  obtain ⟨cs', g1, g2, g3, g4⟩ := set_txt h1 h2 h3 h4 (UInt8.ofNat (48 + u % 10))
  rw [hc] at g1
  exact ⟨cs', _, g1, g2, g3, g4, by rw [h5, decDigits_big2 hu, List.append_assoc]; rfl⟩
theorem DigAt.last {A U u a : Nat} {wr : World} (h : DigAt A U u (a + 1) wr) (hu : u < 10) : TxtAt A a (Lib.decDigits U) (wr.setCell ⟨A, a, none⟩ (.int .u8 (48 + (u : Int) % 10))) := by
  obtain ⟨cs, suf, h1, h2, h3, h4, h5⟩ := h
  have hc : ((UInt8.ofNat (48 + u)).toNat : Int) = 48 + (u : Int) % 10 := by
    rw [UInt8.toNat_ofNat', Nat.mod_eq_of_lt (by omega)]; omega
  have := set_txt h1 h2 h3 h4 (UInt8.ofNat (48 + u))
  rw [hc] at this
  rw [h5, Lib.decDigits_one hu]
  exact this
theorem TxtAt.conv {A a : Nat} {l : List UInt8} {wr : World} (h : TxtAt A a l wr) (w' : World) (hw : w'.heap = wr.heap) (cap n : Nat) (hn : n = l.length) : (convert 63 9 (.slice (some ⟨A, a, none⟩) n cap)).run Tryz.prog w' = .ok (.string ⟨l.toArray⟩) w' := by
  obtain ⟨cs, h1, h2, h3, h4⟩ := h
  subst hn
  refine run_convert_bytes_back w' 63 9 5 ⟨A, a, none⟩ cap l Tryz.underlying63 Tryz.underlying5 Tryz.underlying9 fun j hj => ?_
  have e1 : (⟨A, a, none⟩ : Addr).add j = ⟨A, a + j, none⟩ := by unfold Addr.add; split <;> simp_all
  rw [e1]
  rw [(heapcell (hw ▸ h1) (a + j)).1]
  exact h4 j hj
theorem slice119 (b a : Nat) (ha : a ≤ 20) (W : World) : (Instr.sliceAt 119 (.pointer (some ⟨b, 0, none⟩)) (some (.int .i64 (a : Int))) none none).run Tryz.prog W = .ok (.slice (some ⟨b, a, none⟩) (21 - a) (21 - a)) W := by
  have h := run_sliceAt_array_l (P := Tryz.prog) W 119 ⟨b, 0, none⟩ (by kernel_rfl) .i64 (a : Int) (by omega) (by rw [show Tryz.prog.arrayLen 119 = 21 from by kernel_rfl]; omega)
  rw [h, show Tryz.prog.elem 119 = 5 from by kernel_rfl, show (sizeOf 5).run Tryz.prog W = .ok 1 W from by kernel_rfl, show Tryz.prog.arrayLen 119 = 21 from by kernel_rfl]
  simp only [Result.andThen, slicedAt, Int.toNat_natCast]
  rw [if_neg (by omega)]
  simp [Addr.add]
  exact fun h => h.symm
set_option maxHeartbeats 2000000 in
theorem digits_any (w : World) (n : Int) (hn : -9223372036854775808 ≤ n ∧ n ≤ 9223372036854775807) : Calls Tryz.prog 61 #[.int .i64 n] w (RetB w (.string ⟨(Lib.itoa n).toArray⟩)) := by
  have hz : TxtAt w.heap.size 21 [] (w.alloc (.cells #[.int .u8 0, .int .u8 0, .int .u8 0, .int .u8 0, .int .u8 0, .int .u8 0, .int .u8 0, .int .u8 0, .int .u8 0, .int .u8 0, .int .u8 0, .int .u8 0, .int .u8 0, .int .u8 0, .int .u8 0, .int .u8 0, .int .u8 0, .int .u8 0, .int .u8 0, .int .u8 0, .int .u8 0] 119)) :=
    ⟨_, heap_alloc_new w _, rfl, rfl, fun j h => by simp at h⟩
  have hb := alloc_below w (.cells #[.int .u8 0, .int .u8 0, .int .u8 0, .int .u8 0, .int .u8 0, .int .u8 0, .int .u8 0, .int .u8 0, .int .u8 0, .int .u8 0, .int .u8 0, .int .u8 0, .int .u8 0, .int .u8 0, .int .u8 0, .int .u8 0, .int .u8 0, .int .u8 0, .int .u8 0, .int .u8 0, .int .u8 0] 119)
  obtain ⟨U, hU⟩ : ∃ U : Nat, U = n.natAbs := ⟨_, rfl⟩
  have HU := Lib.hid hU
  have hU2 : (U : Int) ≤ 9223372036854775808 := by omega
  have hD : DigAt w.heap.size U U 21 (w.alloc (.cells #[.int .u8 0, .int .u8 0, .int .u8 0, .int .u8 0, .int .u8 0, .int .u8 0, .int .u8 0, .int .u8 0, .int .u8 0, .int .u8 0, .int .u8 0, .int .u8 0, .int .u8 0, .int .u8 0, .int .u8 0, .int .u8 0, .int .u8 0, .int .u8 0, .int .u8 0, .int .u8 0, .int .u8 0] 119)) := by
    obtain ⟨cs, h1, h2, h3, h4⟩ := hz
    exact ⟨cs, [], h1, h2, h3, h4, by simp⟩
  have HD := Lib.hid hD
  have HB := Lib.hid hb
  have hP : U < 10 ^ 20 := by omega
  have HP := Lib.hid hP
  have hw1 : n < 0 → IntKind.u64.wrap (-IntKind.u64.wrap n) = (U : Int) := fun h => by unfold IntKind.wrap; simp [IntKind.bits, IntKind.signed]; omega
  have hw2 : ¬ n < 0 → n = (U : Int) := fun h => by omega
  have HW1 := Lib.hid hw1
  have HW2 := Lib.hid hw2
  clear hz hb hU hD hP hw1 hw2
  go_enter Tryz.func61, Tryz.ntmps61
  by_cases h0 : n < 0
  · go_wp2_with fail
    rw [HW1.out h0]
    generalize hW1 : w.alloc _ = wa at HD HB ⊢
    clear hW1
    go_loopw [4, 5] (fun av uv wr => ∃ (a u : Nat), 1 ≤ a ∧ a ≤ 20 ∧ u ≤ U ∧ av = .int .i64 ((a : Int) + 1) ∧ uv = .int .u64 u ∧ Hid (u < 10 ^ a) ∧ Hid (DigAt w.heap.size U u (a + 1) wr) ∧ Hid (Below w.heap.size w wr))
      (fun _ uv _ => (intOf uv).toNat)
    case atStart => exact ⟨20, U, by omega, by omega, by omega, rfl, rfl, HP, HD, HB⟩
    case round =>
      obtain ⟨a, u, ha1, ha2, huU, rfl, rfl, hp, hD, hB⟩ := hrel
      obtain ⟨xk, b0, f0⟩ : ∃ xk, wr.cell? ⟨w.heap.size, a, none⟩ = some xk ∧ wr.frozen? ⟨w.heap.size, a, none⟩ = false := by
        obtain ⟨cs, suf, h1, h2, _⟩ := hD.out
        exact ⟨cs[a]'(by omega), by rw [(heapcell h1 a).1, Array.getElem?_eq_getElem (by omega)], (heapcell h1 a).2⟩
      by_cases hu : u < 10
      · have hu0 : (u : Int) / 10 = 0 := by omega
        have HT := Lib.hid (hD.out.last hu)
        have HBs := Lib.hid (hB.out.setCell (p := ⟨w.heap.size, a, none⟩) (Nat.le_refl _) (.int .u8 (48 + (u : Int) % 10)))
        obtain ⟨xj, b1, f1⟩ : ∃ xj, wr.cell? ⟨w.heap.size, a - 1, none⟩ = some xj ∧ wr.frozen? ⟨w.heap.size, a - 1, none⟩ = false := by
          obtain ⟨cs, suf, h1, h2, _⟩ := hD.out
          exact ⟨cs[a - 1]'(by omega), by rw [(heapcell h1 (a - 1)).1, Array.getElem?_eq_getElem (by omega)], (heapcell h1 (a - 1)).2⟩
        have hs := slice119 w.heap.size (a - 1) (by omega)
        rw [show ((a - 1 : Nat) : Int) = (a : Int) - 1 from by omega] at hs
        have HT2 : Hid (TxtAt w.heap.size (a - 1) (45 :: Lib.decDigits U) ((wr.setCell ⟨w.heap.size, a, none⟩ (.int .u8 (48 + (u : Int) % 10))).setCell ⟨w.heap.size, a - 1, none⟩ (.int .u8 45))) := Lib.hid (by
          obtain ⟨cs, h1, h2, h3, h4⟩ := HT.out
          exact set_txt h1 h2 (by omega) (fun j hj => by rw [show a - 1 + 1 + j = a + j from by omega]; exact h4 j hj) 45)
        have hcv := HT2.out.conv _ rfl (21 - (a - 1)) (21 - (a - 1)) (by
          obtain ⟨cs, h1, h2, h3, h4⟩ := HT2.out
          omega)
        have hi : Lib.itoa n = 45 :: Lib.decDigits U := by unfold Lib.itoa; rw [if_pos h0, HU.out]
        have HI := Lib.hid hi
        have HBt := Lib.hid (HBs.out.setCell (p := ⟨w.heap.size, a - 1, none⟩) (Nat.le_refl _) (.int .u8 45))
        clear hi
        go_wp2_with fail
        go_ret
        exact ⟨by rw [HI.out]; rfl, HBt.out⟩
      · have hu0 : ¬ (u : Int) / 10 = 0 := by omega
        have ha3 : 2 ≤ a := by
          have := hp.out
          rcases (by omega : a = 1 ∨ 2 ≤ a) with rfl | h
          · simp at this; omega
          · exact h
        have HT := Lib.hid (hD.out.step hu)
        have hp2 : Hid (u / 10 < 10 ^ (a - 1)) := Lib.hid (by
          have := hp.out
          rw [show a = a - 1 + 1 from by omega, Nat.pow_succ] at this
          omega)
        go_wp2_with fail
        go_roundw
        case rel => exact ⟨a - 1, u / 10, by omega, by omega, by omega, by go_num, by go_num, hp2, Lib.hid (by have := HT.out; rw [show a - 1 + 1 = a from by omega]; exact this), Lib.hid (hB.out.setCell (Nat.le_refl _) _)⟩
        case measure => simp [intOf]; omega
  · obtain rfl := HW2.out h0
    go_wp2_with fail
    generalize hW1 : w.alloc _ = wa at HD HB ⊢
    clear hW1
    go_loopw [4, 5] (fun av uv wr => ∃ (a u : Nat), 1 ≤ a ∧ a ≤ 20 ∧ u ≤ U ∧ av = .int .i64 ((a : Int) + 1) ∧ uv = .int .u64 u ∧ Hid (u < 10 ^ a) ∧ Hid (DigAt w.heap.size U u (a + 1) wr) ∧ Hid (Below w.heap.size w wr))
      (fun _ uv _ => (intOf uv).toNat)
    case atStart => exact ⟨20, U, by omega, by omega, by omega, rfl, rfl, HP, HD, HB⟩
    case round =>
      obtain ⟨a, u, ha1, ha2, huU, rfl, rfl, hp, hD, hB⟩ := hrel
      obtain ⟨xk, b0, f0⟩ : ∃ xk, wr.cell? ⟨w.heap.size, a, none⟩ = some xk ∧ wr.frozen? ⟨w.heap.size, a, none⟩ = false := by
        obtain ⟨cs, suf, h1, h2, _⟩ := hD.out
        exact ⟨cs[a]'(by omega), by rw [(heapcell h1 a).1, Array.getElem?_eq_getElem (by omega)], (heapcell h1 a).2⟩
      by_cases hu : u < 10
      · have hu0 : (u : Int) / 10 = 0 := by omega
        have HT := Lib.hid (hD.out.last hu)
        have HBs := Lib.hid (hB.out.setCell (p := ⟨w.heap.size, a, none⟩) (Nat.le_refl _) (.int .u8 (48 + (u : Int) % 10)))
        have hs := slice119 w.heap.size a (by omega)
        have hcv := HT.out.conv _ rfl (21 - a) (21 - a) (by
          obtain ⟨cs, h1, h2, h3, h4⟩ := HT.out
          omega)
        have hi : Lib.itoa (U : Int) = Lib.decDigits U := by unfold Lib.itoa; rw [if_neg (by omega)]; rfl
        have HI := Lib.hid hi
        have HBt := HBs
        clear hi
        go_wp2_with fail
        go_ret
        exact ⟨by rw [HI.out]; rfl, HBt.out⟩
      · have hu0 : ¬ (u : Int) / 10 = 0 := by omega
        have ha3 : 2 ≤ a := by
          have := hp.out
          rcases (by omega : a = 1 ∨ 2 ≤ a) with rfl | h
          · simp at this; omega
          · exact h
        have HT := Lib.hid (hD.out.step hu)
        have hp2 : Hid (u / 10 < 10 ^ (a - 1)) := Lib.hid (by
          have := hp.out
          rw [show a = a - 1 + 1 from by omega, Nat.pow_succ] at this
          omega)
        go_wp2_with fail
        go_roundw
        case rel => exact ⟨a - 1, u / 10, by omega, by omega, by omega, by go_num, by go_num, hp2, Lib.hid (by have := HT.out; rw [show a - 1 + 1 = a from by omega]; exact this), Lib.hid (hB.out.setCell (Nat.le_refl _) _)⟩
        case measure => simp [intOf]; omega
end

section
open Go.RowKit
set_option maxRecDepth 100000
def PlainO (t : VT) (w : World) (e : Ending) (w' : World) : Prop := ∃ cs bs, e = .returned (.tuple #[.agg cs.toArray, .bool true]) ∧ HasP w' (plainOf t) cs bs ∧ (∀ g ∈ bs, w.heap.size ≤ g) ∧ Below w.heap.size w w'
set_option maxHeartbeats 4000000 in
theorem plain_call (t : VT) (w : World) (v : Value) (vb : List Nat) (hv : RepV w t v vb) (hn : nodesV t ≤ 70000) (hd : depV t ≤ 70) (ht : txtV t) : Calls Tryz.prog 59 #[v] w (PlainO t w) := by
  have hcall : Calls Tryz.prog 70 #[v, .pointer (some ⟨w.heap.size + 1, 0, none⟩), .int .i64 0] ((w.alloc (.cells #[.int .i64 0, .int .i64 0, .string ⟨#[]⟩, .slice none 0 0] 27)).alloc (.cells #[.int .i64 0] 3)) (PlainR (w.heap.size + 1) 0 t ((w.alloc (.cells #[.int .i64 0, .int .i64 0, .string ⟨#[]⟩, .slice none 0 0] 27)).alloc (.cells #[.int .i64 0] 3))) := by
    refine plain_any t _ v vb (w.heap.size + 1) 0 0 (RepV.keep _ _ _ (fun g hg => ?_) hv) (fun hm => ?_) ?_ (by omega) (by omega) ht
    · have := RepV.lt _ _ _ hv g hg
      rw [Below.heap_alloc _ _ _ (by simp; omega), Below.heap_alloc _ _ _ this]
    · have := RepV.lt _ _ _ hv _ hm; omega
    · have := heap_alloc_new (w.alloc (.cells #[.int .i64 0, .int .i64 0, .string ⟨#[]⟩, .slice none 0 0] 27)) (.cells #[.int .i64 0] 3)
      unfold CN
      simpa using this
  have HC := Lib.hid hcall
  clear hcall hv hn hd ht
  go_enter Tryz.func59, Tryz.ntmps59
  go_wp2_with fail
  refine HC.out.mono ?_
  rintro e w1 ⟨cs, bs, rfl, hh, hge, hcn, hkb⟩
  have h2 : w1.heap[w.heap.size]? = some (.cells #[.int .i64 0, .int .i64 0, .string ⟨#[]⟩, .slice none 0 0] 27 (0, 0)) := by
    rw [hkb.block w.heap.size (by simp; omega) (by simp), Below.heap_alloc _ _ _ (by simp)]
    exact heap_alloc_new w _
  have hB : Below w.heap.size w w1 := ((alloc_below w _).alloc (by simp) _).trans (hkb.below (by omega) (by simp; omega))
  obtain ⟨k1, n1, s1, la1, ln1, lc1, rfl⟩ := hh.form
  have HH := Lib.hid hh
  have HGE := Lib.hid hge
  have HB := Lib.hid hB
  obtain ⟨N, hN⟩ : ∃ N, N = w.heap.size := ⟨_, rfl⟩
  rw [← hN] at h2 ⊢
  have HN := Lib.hid hN
  obtain ⟨p0, f0⟩ := (heapcell h2 0)
  obtain ⟨p1, f1⟩ := (heapcell h2 1)
  obtain ⟨p2, f2⟩ := (heapcell h2 2)
  obtain ⟨p3, f3⟩ := (heapcell h2 3)
  clear hh hge hcn hkb hB hN h2
  go_wp2_with fail
  refine bodyPost_ret (v := .tuple #[.agg #[.int .i64 k1, .int .i64 n1, .string s1, .slice la1 ln1 lc1], .bool true]) (by simp [results, Tryz.results59, go_sem, p0, p1, p2, p3]) rfl ?_
  have hN := HN.out
  have hge := HGE.out
  simp at hge
  have hw4 : ∀ b, b ≠ N → ((((w1.setCell ⟨N, 0, none⟩ (.int .i64 k1)).setCell ⟨N, 1, none⟩ (.int .i64 n1)).setCell ⟨N, 2, none⟩ (.string s1)).setCell ⟨N, 3, none⟩ (.slice la1 ln1 lc1)).heap[b]? = w1.heap[b]? := fun b hb => by
    rw [heap_set_ne _ hb, heap_set_ne _ hb, heap_set_ne _ hb, heap_set_ne _ hb]
  have hB := HB.out
  exact ⟨[.int .i64 k1, .int .i64 n1, .string s1, .slice la1 ln1 lc1], bs, rfl, HasP.keep _ _ _ (fun b hb => hw4 b (by have := hge b hb; omega)) HH.out, fun b hb => by have := hge b hb; omega,
    ⟨hB.os, hB.tape, hB.output, by have := hB.size; simpa [World.setCell] using this, fun b hb => (hw4 b (by omega)).trans (hB.block b hb)⟩⟩
set_option maxHeartbeats 4000000 in
/-- 'Is': the value stands for this plain one. -/
theorem is_any (t : VT) (p : PT) (w : World) (v u : Value) (vb : List Nat) (hv : RepV w t v vb) (hp : plainOf t = p) (hu : ArgP w p u) (hn : nodesV t ≤ 70000) (hd : depV t ≤ 70) (ht : txtV t) : Calls Tryz.prog 37 #[v, u] w (RetB w (.bool true)) := by
  subst hp
  have g' := hu
  cases hpt : plainOf t with
  | mk k n s l =>
  rw [hpt] at g'
  obtain ⟨_, _, la, lc, rfl, _⟩ := g'
  have HV := Lib.hid (plain_call t (w.alloc (.cells #[.int .i64 k, .int .i64 n, .string s, .slice la l.length lc] 27)) v vb (RepV.keep _ _ _ (fun g hg => Below.heap_alloc _ _ _ (RepV.lt _ _ _ hv g hg)) hv) hn hd ht)
  have HU := Lib.hid hu
  have HP := Lib.hid hpt
  clear hv hu hn hd ht hpt
  go_enter Tryz.func37, Tryz.ntmps37
  go_wp2_with fail
  refine HV.out.mono ?_
  rintro e w1 ⟨cs, bs, rfl, hh, hge, hB⟩
  obtain ⟨k1, n1, s1, la1, ln1, lc1, rfl⟩ := hh.form
  have h2 : w1.heap[w.heap.size]? = some (.cells #[.int .i64 k, .int .i64 n, .string s, .slice la l.length lc] 27 (0, 0)) := by
    rw [hB.block w.heap.size (by simp)]
    exact heap_alloc_new w _
  have HH := Lib.hid hh.arg
  have HB := Lib.hid ((alloc_below w (.cells #[.int .i64 k, .int .i64 n, .string s, .slice la l.length lc] 27)).trans (hB.mono (by simp)))
  have HS := hB.size
  simp at HS
  obtain ⟨N, hN⟩ : ∃ N, N = w.heap.size := ⟨_, rfl⟩
  rw [← hN] at h2 HS ⊢
  have HN := Lib.hid hN
  have e0 := cellOf_heap (j := 0) (Below.heap_alloc w1 (.cells #[.int .i64 k1, .int .i64 n1, .string s1, .slice la1 ln1 lc1] 27) N (by omega))
  have e1 := cellOf_heap (j := 1) (Below.heap_alloc w1 (.cells #[.int .i64 k1, .int .i64 n1, .string s1, .slice la1 ln1 lc1] 27) N (by omega))
  have e2 := cellOf_heap (j := 2) (Below.heap_alloc w1 (.cells #[.int .i64 k1, .int .i64 n1, .string s1, .slice la1 ln1 lc1] 27) N (by omega))
  have e3 := cellOf_heap (j := 3) (Below.heap_alloc w1 (.cells #[.int .i64 k1, .int .i64 n1, .string s1, .slice la1 ln1 lc1] 27) N (by omega))
  rw [(heapcell h2 0).1] at e0
  rw [(heapcell h2 1).1] at e1
  rw [(heapcell h2 2).1] at e2
  rw [(heapcell h2 3).1] at e3
  clear hh hge hB hN h2
  go_wp2_with fail
  have hB := HB.out
  refine (eq_any (plainOf t) _ _ _ (HH.out.below (alloc_below _ _)) ((HU.out.below hB).below (alloc_below _ _))).mono ?_
  rintro e w2 ⟨rfl, hb⟩
  go_wp2_with fail
  go_ret
  exact ⟨rfl, ((hB.alloc hB.size _).trans (hb.mono (by have := hB.size; simp; omega)))⟩
end

section
open Go.RowKit
set_option maxRecDepth 100000
/-- All blocks that hold no bytes stay. -/
def KT (w w' : World) : Prop := w.heap.size ≤ w'.heap.size ∧ ∀ b < w.heap.size, (∀ cur f, w.heap[b]? ≠ some (.cells cur 5 f)) → w'.heap[b]? = w.heap[b]?
theorem KT.refl (w : World) : KT w w := ⟨Nat.le_refl _, fun _ _ _ => rfl⟩
theorem KT.trans {a b c : World} (h : KT a b) (k : KT b c) : KT a c := ⟨Nat.le_trans h.1 k.1, fun g hg hn => by
  have h1 := h.2 g hg hn
  rw [k.2 g (Nat.lt_of_lt_of_le hg h.1) (by rw [h1]; exact hn), h1]⟩
theorem KT.box {w w' : World} (h : KT w w') {R : Nat} {cs : Array Value} (hb : w.heap[R]? = some (.cells cs 27 (0, 0))) : w'.heap[R]? = some (.cells cs 27 (0, 0)) :=
  (h.2 R (Array.getElem?_eq_some_iff.1 hb).1 (by rw [hb]; intro cur f e; simp at e)).trans hb
theorem KT.alloc {w w' : World} (h : KT w w') (o : Obj) : KT w (w'.alloc o) := ⟨by simp; have := h.1; omega, fun b hb hn => (Below.heap_alloc _ _ _ (Nat.lt_of_lt_of_le hb h.1)).trans (h.2 b hb hn)⟩
/-- A row of bytes that grows. -/
structure St (w0 w1 : World) (L : List UInt8) (sv : Value) (w : World) : Prop where
  row : w.ownsRow w0.heap.size 5 1 sv L.length (Lib.byteCells L)
  below : Below w0.heap.size w0 w
  keep : KT w1 w
theorem St.alloc {w0 w1 w : World} {L : List UInt8} {sv : Value} (h : St w0 w1 L sv w) (o : Obj) : St w0 w1 L sv (w.alloc o) := ⟨h.row.alloc o, h.below.alloc h.below.size o, h.keep.alloc o⟩
theorem St.later {w0 w1 w w' : World} {L : List UInt8} {sv : Value} (h : St w0 w1 L sv w) (hb : Below w.heap.size w w') : St w0 w1 L sv w' :=
  ⟨ownsRow_keep h.row (fun g hg => hb.block g (h.row.lt g hg).2), h.below.trans (hb.mono h.below.size), h.keep.trans ⟨hb.size, fun b hl _ => hb.block b hl⟩⟩
theorem St.grown {w0 w1 w w' : World} {L N : List UInt8} {sv sv' : Value} {m : Nat} {xs : List Value} (h : St w0 w1 L sv w) (hg : w.grownBy w' sv.ownBlock) (hx : xs = Lib.byteCells (L ++ N)) (hm : m = (L ++ N).length) (ho : w'.ownsRow w0.heap.size 5 1 sv' m xs) : St w0 w1 (L ++ N) sv' w' := by
  subst hx hm
  refine ⟨ho, h.below.grown hg h.below.size (fun k hk => (h.row.lt k hk).1), h.keep.trans ⟨hg.size, fun b hb hn => hg.block b hb (fun e => ?_)⟩⟩
  rcases h.row.2 with ⟨rfl, _⟩ | ⟨g, cap, cur, rfl, _, hgg, _⟩
  · simp [Value.ownBlock] at e
  · simp [Value.ownBlock] at e
    subst e
    exact hn _ _ hgg
theorem St.start {w0 w : World} {L : List UInt8} {sv : Value} (hr : w.ownsRow w0.heap.size 5 1 sv L.length (Lib.byteCells L)) (hb : Below w0.heap.size w0 w) : St w0 w L sv w := ⟨hr, hb, KT.refl w⟩
/-- What the writer leaves: some bytes more; the text itself where there is room. -/
def WrQ (w0 : World) (E L : List UInt8) (w : World) (e : Ending) (w' : World) : Prop := ∃ sv' M, e = .returned sv' ∧ St w0 w (L ++ M) sv' w' ∧ M.length ≤ E.length ∧ (L.length + M.length ≤ 1048576 → M = E)
def WrFor (t : VT) : Prop := ∀ (w0 w : World) (v sv : Value) (L : List UInt8), ArgP w0 (plainOf t) v → Below w0.heap.size w0 w → w.ownsRow w0.heap.size 5 1 sv L.length (Lib.byteCells L) → L.length + (enc t).length ≤ 10000000 → okV t → Calls Tryz.prog 41 #[sv, v] w (WrQ w0 (enc t) L w)
theorem wr_all {w0 w w1 w' : World} {E L : List UInt8} {sv : Value} (h : St w0 w1 (L ++ E) sv w') (hk : KT w w1) : WrQ w0 E L w (.returned sv) w' := ⟨sv, E, rfl, ⟨h.row, h.below, hk.trans h.keep⟩, Nat.le_refl _, fun _ => rfl⟩
set_option maxHeartbeats 1000000 in
theorem wr_unit : WrFor .unit := by
  intro w0 w v sv L hv hb hr hl ho
  obtain ⟨_, _, la, lc, rfl, _⟩ := hv
  obtain ⟨i0, hi, hz0, hz1, hz2⟩ := info_parts infoB
  have HZ1 := Lib.hid hz1; clear hz1
  have HZ2 := Lib.hid hz2; clear hz2
  have HZ0 := Lib.hid hz0; clear hz0
  have HI0 := Lib.hid hi; clear hi
  have HL := Lib.hid hl
  have HS := Lib.hid ((St.start hr hb).alloc (.cells #[.int .i64 1, .int .i64 0, .string ⟨#[]⟩, .slice la 0 lc] 27))
  clear hl ho hr hb
  go_enter Tryz.func41, Tryz.ntmps41
  go_wp2_with (at_builtin; refine Lib.wpList_append_own_string _ rfl _ _ 63 9 rfl w0.heap.size 5 i0 Tryz.underlying63 Tryz.underlying9 HI0.out HZ0.out HZ1.out HZ2.out _ _ _ rfl HS.out.row ⟨#[117, 110, 105, 116]⟩ rfl ?c3 ?c4 ?c5 ?_)
  case c3 => have := HL.out; unfold maxLen; simp [ByteArray.size]; omega
  case c4 => have := HL.out; simp [ByteArray.size]; omega
  case c5 => exact HS.out.below.size
  intro sv' w1 hown hgrow _
  have hst := HS.out.grown (N := [117, 110, 105, 116]) hgrow (by rw [Lib.byteCells_append]; rfl) (by simp [ByteArray.size]) hown
  have HST := Lib.hid hst
  clear hst hown hgrow
  go_wp2_with fail
  go_ret
  exact wr_all HST.out (KT.refl _)
set_option maxHeartbeats 1000000 in
theorem wr_yes : WrFor (.truth true) := by
  intro w0 w v sv L hv hb hr hl ho
  obtain ⟨_, _, la, lc, rfl, _⟩ := hv
  obtain ⟨i0, hi, hz0, hz1, hz2⟩ := info_parts infoB
  have HZ1 := Lib.hid hz1; clear hz1
  have HZ2 := Lib.hid hz2; clear hz2
  have HZ0 := Lib.hid hz0; clear hz0
  have HI0 := Lib.hid hi; clear hi
  have HL := Lib.hid hl
  have HS := Lib.hid ((St.start hr hb).alloc (.cells #[.int .i64 2, .int .i64 1, .string ⟨#[]⟩, .slice la 0 lc] 27))
  clear hl ho hr hb
  go_enter Tryz.func41, Tryz.ntmps41
  go_wp2_with (at_builtin; refine Lib.wpList_append_own_string _ rfl _ _ 63 9 rfl w0.heap.size 5 i0 Tryz.underlying63 Tryz.underlying9 HI0.out HZ0.out HZ1.out HZ2.out _ _ _ rfl HS.out.row ⟨#[121, 101, 115]⟩ rfl ?c3 ?c4 ?c5 ?_)
  case c3 => have := HL.out; unfold maxLen; simp [ByteArray.size]; omega
  case c4 => have := HL.out; simp [ByteArray.size]; omega
  case c5 => exact HS.out.below.size
  intro sv' w1 hown hgrow _
  have hst := HS.out.grown (N := [121, 101, 115]) hgrow (by rw [Lib.byteCells_append]; rfl) (by simp [ByteArray.size]) hown
  have HST := Lib.hid hst
  clear hst hown hgrow
  go_wp2_with fail
  go_ret
  exact wr_all HST.out (KT.refl _)
set_option maxHeartbeats 1000000 in
theorem wr_no : WrFor (.truth false) := by
  intro w0 w v sv L hv hb hr hl ho
  obtain ⟨_, _, la, lc, rfl, _⟩ := hv
  obtain ⟨i0, hi, hz0, hz1, hz2⟩ := info_parts infoB
  have HZ1 := Lib.hid hz1; clear hz1
  have HZ2 := Lib.hid hz2; clear hz2
  have HZ0 := Lib.hid hz0; clear hz0
  have HI0 := Lib.hid hi; clear hi
  have HL := Lib.hid hl
  have HS := Lib.hid ((St.start hr hb).alloc (.cells #[.int .i64 2, .int .i64 0, .string ⟨#[]⟩, .slice la 0 lc] 27))
  clear hl ho hr hb
  go_enter Tryz.func41, Tryz.ntmps41
  go_wp2_with (at_builtin; refine Lib.wpList_append_own_string _ rfl _ _ 63 9 rfl w0.heap.size 5 i0 Tryz.underlying63 Tryz.underlying9 HI0.out HZ0.out HZ1.out HZ2.out _ _ _ rfl HS.out.row ⟨#[110, 111]⟩ rfl ?c3 ?c4 ?c5 ?_)
  case c3 => have := HL.out; unfold maxLen; simp [ByteArray.size]; omega
  case c4 => have := HL.out; simp [ByteArray.size]; omega
  case c5 => exact HS.out.below.size
  intro sv' w1 hown hgrow _
  have hst := HS.out.grown (N := [110, 111]) hgrow (by rw [Lib.byteCells_append]; rfl) (by simp [ByteArray.size]) hown
  have HST := Lib.hid hst
  clear hst hown hgrow
  go_wp2_with fail
  go_ret
  exact wr_all HST.out (KT.refl _)
set_option maxHeartbeats 1000000 in
theorem wr_int (n : Int) : WrFor (.int n) := by
  intro w0 w v sv L hv hb hr hl ho
  obtain ⟨_, _, la, lc, rfl, _⟩ := hv
  obtain ⟨i0, hi, hz0, hz1, hz2⟩ := info_parts infoB
  have HZ1 := Lib.hid hz1; clear hz1
  have HZ2 := Lib.hid hz2; clear hz2
  have HZ0 := Lib.hid hz0; clear hz0
  have HI0 := Lib.hid hi; clear hi
  have HL : Hid (L.length + (Lib.itoa n).length ≤ 10000000) := Lib.hid hl
  have HS := Lib.hid ((St.start hr hb).alloc (.cells #[.int .i64 3, .int .i64 n, .string ⟨#[]⟩, .slice la 0 lc] 27))
  have HO := Lib.hid ho
  clear hl ho hr hb
  go_enter Tryz.func41, Tryz.ntmps41
  go_wp2_with fail
  refine (digits_any _ n HO.out).mono ?_
  rintro e w1 ⟨rfl, hb1⟩
  have HS1 := Lib.hid (HS.out.later hb1)
  clear hb1
  go_wp2_with (at_builtin; refine Lib.wpList_append_own_string _ rfl _ _ 63 9 rfl w0.heap.size 5 i0 Tryz.underlying63 Tryz.underlying9 HI0.out HZ0.out HZ1.out HZ2.out _ _ _ rfl HS1.out.row ⟨(Lib.itoa n).toArray⟩ rfl ?c3 ?c4 ?c5 ?_)
  case c3 => have := HL.out; unfold maxLen; simp [ByteArray.size]; omega
  case c4 => have := HL.out; simp [ByteArray.size]; omega
  case c5 => exact HS1.out.below.size
  intro sv' w2 hown hgrow _
  have hst := HS1.out.grown (N := Lib.itoa n) hgrow (by rw [Lib.byteCells_append]; rfl) (by simp [ByteArray.size]) hown
  have HST := Lib.hid hst
  clear hst hown hgrow
  go_wp2_with fail
  go_ret
  exact wr_all HST.out (KT.refl _)
end

section
open Go.RowKit
set_option maxRecDepth 100000
theorem row_new (w : World) (xs : List Value) (t : TypeId) : ∀ j u, xs[j]? = some u → (w.alloc (.cells xs.toArray t)).cell? ((⟨w.heap.size, 0, none⟩ : Addr).add j) = some u := by
  intro j u hu
  have e : (⟨w.heap.size, 0, none⟩ : Addr).add j = ⟨w.heap.size, j, none⟩ := by unfold Addr.add; split <;> simp_all
  rw [e, (heapcell (heap_alloc_new w (.cells xs.toArray t)) j).1]
  simpa using hu
theorem grown_keep {w0 w1 W w w' : World} {L : List UInt8} {sv : Value} (h : St w0 w1 L sv w) (hg : w.grownBy w' sv.ownBlock) (hk : KT W w) : KT W w' := hk.trans ⟨hg.size, fun b hb hn => hg.block b hb (fun e => by
  rcases h.row.2 with ⟨rfl, _⟩ | ⟨g, cap, cur, rfl, _, hgg, _⟩
  · simp [Value.ownBlock] at e
  · simp [Value.ownBlock] at e
    subst e
    exact hn _ _ hgg)⟩
theorem four_one (a b c d : Int) : ∀ u ∈ [Value.int .u8 a, .int .u8 b, .int .u8 c, .int .u8 d], u.oneCell' = true := by
  intro u hu
  simp at hu
  rcases hu with rfl | rfl | rfl | rfl <;> rfl
theorem St.drew {w0 w1 w : World} {L : List UInt8} {sv : Value} (h : St w0 w1 L sv w) : St w0 w1 L sv w.drew := h.later (Below.refl _ _).drew
set_option maxHeartbeats 4000000 in
theorem wr_text (s : ByteArray) : WrFor (.text s) := by
  intro w0 w v sv L hv hb hr hl ho
  obtain ⟨hsz, _, la, lc, rfl, _⟩ := hv
  obtain ⟨i0, hi, hz0, hz1, hz2⟩ := info_parts infoB
  have HZ1 := Lib.hid hz1; clear hz1
  have HZ2 := Lib.hid hz2; clear hz2
  have HZ0 := Lib.hid hz0; clear hz0
  have HI0 := Lib.hid hi; clear hi
  have HL : Hid (L.length + (2 + (quoteL s.data.toList).length) ≤ 10000000) := Lib.hid (by have : L.length + ([34] ++ quoteL s.data.toList ++ [34]).length ≤ 10000000 := hl; simp at this; omega)
  have HS := Lib.hid ((St.start hr hb).alloc (.cells #[.int .i64 4, .int .i64 0, .string s, .slice la 0 lc] 27))
  have HX := Lib.hid (heap_alloc_new w (.cells #[.int .i64 4, .int .i64 0, .string s, .slice la 0 lc] 27))
  have HK0 := Lib.hid ((KT.refl w).alloc (.cells #[.int .i64 4, .int .i64 0, .string s, .slice la 0 lc] 27))
  clear hl ho hr hb
  go_enter Tryz.func41, Tryz.ntmps41
  go_upto_region 11 with fail
  generalize (w.alloc (.cells #[.int .i64 4, .int .i64 0, .string s, .slice la 0 lc] 27)) = W at HS HX HK0 ⊢
  obtain ⟨R, hR⟩ : ∃ R, R = w.heap.size := ⟨_, rfl⟩
  simp only [← hR] at HX ⊢
  clear hR
  go_wp2_with (at_builtin; refine wpList_append_own_at _ rfl _ _ 63 rfl w0.heap.size 5 i0 (.int .u8 0) 1 1 Tryz.underlying63 HI0.out HZ0.out HZ1.out HZ2.out rfl (by decide) _ _ _ rfl (HS.out.alloc _).row ⟨W.heap.size, 0, none⟩ 1 1 [.int .u8 34] rfl rfl (row_new _ _ _) ?c2 ?c3 ?c4 ?c5 ?_)
  case c2 => intro u hu; simp at hu; first | (subst hu; rfl) | (rcases hu with rfl | rfl <;> rfl) | (rcases hu with rfl | rfl | rfl | rfl <;> rfl)
  case c3 => have := HL.out; unfold maxLen; simp at this ⊢; omega
  case c4 => have := HL.out; simp at this ⊢; omega
  case c5 => exact (HS.out.alloc _).below.size
  intro sv2 w2 hown hgrow _ _
  have HS2 := Lib.hid ((HS.out.alloc _).grown (N := [34]) hgrow (by rw [Lib.byteCells_append]; rfl) (by simp) hown)
  have HK2 : Hid (KT W w2) := Lib.hid (grown_keep (HS.out.alloc _) hgrow ((KT.refl _).alloc _))
  clear hown hgrow
  have HX2 := Lib.hid (HK2.out.box HX.out)
  have HK2' := Lib.hid (HK0.out.trans HK2.out)
  clear HX HK0 HK2
  go_wp2_with fail
  go_loopw [0, 5] (fun bv iv wr => ∃ (i : Nat), i ≤ s.size ∧ iv = .int .i64 i ∧ Hid (St w0 w (L ++ ([34] ++ quoteL (s.data.toList.take i))) bv wr) ∧ Hid (wr.heap[R]? = some (.cells #[.int .i64 4, .int .i64 0, .string s, .slice la 0 lc] 27 (0, 0))))
    (fun _ i _ => s.size - (intOf i).toNat)
  case atStart => exact ⟨0, by omega, rfl, Lib.hid (by simpa [quoteL] using HS2.out), HX2⟩
  case round =>
    obtain ⟨i, hi, rfl, hw, hx⟩ := hrel
    obtain ⟨Q, hQ⟩ : ∃ Q, Q = L ++ ([34] ++ quoteL (s.data.toList.take i)) := ⟨_, rfl⟩
    rw [← hQ] at hw
    have HQ := Lib.hid hQ
    clear hQ
    obtain ⟨bx, bc, rfl⟩ := own_slice hw.out.row
    have x2 := (heapcell hx.out 2).1
    by_cases hlt : i < s.size
    · have hstep : quoteL (s.data.toList.take (i + 1)) = quoteL (s.data.toList.take i) ++ quoteB s[i] := by
        rw [List.take_succ_eq_append_getElem (by simpa using hlt), quoteL, List.flatMap_append]; simp [quoteL]; rfl
      have HSS := Lib.hid hstep
      have hql : (quoteL (s.data.toList.take (i + 1))).length ≤ (quoteL s.data.toList).length := by
        have h2 := congrArg (fun l => (quoteL l).length) (List.take_append_drop (i + 1) s.data.toList)
        simp only [quoteL, List.flatMap_append, List.length_append] at h2 ⊢
        omega
      have hlen0 : (L ++ ([34] ++ quoteL (s.data.toList.take i))).length + (quoteB s[i]).length ≤ 10000000 - 1 := by
        rw [hstep] at hql
        have := HL.out; simp at this hql ⊢; omega
      have HLN := Lib.hid hlen0
      clear hlen0 hql hstep
      have HM : Hid (∀ q sz wz, quoteB s[i] = q → St w0 w (L ++ ([34] ++ quoteL (s.data.toList.take i)) ++ q) sz wz → St w0 w (L ++ ([34] ++ quoteL (s.data.toList.take (i + 1)))) sz wz) := Lib.hid (fun q sz wz e hz => by
        rw [HSS.out, e]
        simpa [List.append_assoc] using hz)
      rw [← HQ.out] at HM HLN
      obtain ⟨c, hc⟩ : ∃ c, c = s[i] := ⟨_, rfl⟩
      rw [← hc] at HM HLN
      have h8 : c.toNat < 256 := c.toNat_lt
      have hidx : (s[i].toNat : Int) = (c.toNat : Int) := by rw [hc]
      have HC := Lib.hid hc
      clear hc HSS
      by_cases h34 : c.toNat = 34
      · have b1 : ((c.toNat : Int) == 34) = true := by rw [h34]; rfl
        have HE : Hid (quoteB c = [92, c]) := Lib.hid (if_pos (.inl h34))
        have HB : Hid (Q.length + 2 ≤ 10000000 - 1) := Lib.hid (by have := HLN.out; rw [HE.out] at this; simpa using this)
        have H34 := Lib.hid h34
        clear h34
        go_wp2_with (at_builtin; refine wpList_append_own_at _ rfl _ _ 63 rfl w0.heap.size 5 i0 (.int .u8 0) 1 1 Tryz.underlying63 HI0.out HZ0.out HZ1.out HZ2.out rfl (by decide) _ _ _ rfl (hw.out.alloc _).row ⟨wr.heap.size, 0, none⟩ 2 2 [.int .u8 92, .int .u8 c.toNat] rfl rfl (row_new _ _ _) ?c2 ?c3 ?c4 ?c5 ?_)
        case c2 => intro u hu; simp at hu; first | (subst hu; rfl) | (rcases hu with rfl | rfl <;> rfl) | (rcases hu with rfl | rfl | rfl | rfl <;> rfl)
        case c3 => have := HB.out; unfold maxLen; simp at this ⊢; omega
        case c4 => have := HB.out; simp at this ⊢; omega
        case c5 => exact (hw.out.alloc _).below.size
        intro sv3 w3 hown hgrow _ _
        have HS3 := Lib.hid ((hw.out.alloc _).grown (N := [92, c]) hgrow (by rw [Lib.byteCells_append]; rfl) (by simp) hown)
        have HK3 : Hid (KT wr w3) := Lib.hid (grown_keep (hw.out.alloc _) hgrow ((KT.refl _).alloc _))
        clear hown hgrow
        have HF := Lib.hid (HM.out _ _ _ HE.out HS3.out)
        have HXF := Lib.hid (HK3.out.box hx.out)
        clear HM HK3
        go_wp2_with fail
        go_roundw
        case rel => exact ⟨i + 1, by omega, by go_num, HF, HXF⟩
        case measure => simp [intOf]; omega
      · have n34 : ((c.toNat : Int) == 34) = false := by simpa using (show ¬ (c.toNat : Int) = 34 by omega)
        by_cases h92 : c.toNat = 92
        · have b1 : ((c.toNat : Int) == 92) = true := by rw [h92]; rfl
          have HE : Hid (quoteB c = [92, c]) := Lib.hid (if_pos (.inr h92))
          have HB : Hid (Q.length + 2 ≤ 10000000 - 1) := Lib.hid (by have := HLN.out; rw [HE.out] at this; simpa using this)
          have H92 := Lib.hid h92
          clear h92 h34
          go_wp2_with (at_builtin; refine wpList_append_own_at _ rfl _ _ 63 rfl w0.heap.size 5 i0 (.int .u8 0) 1 1 Tryz.underlying63 HI0.out HZ0.out HZ1.out HZ2.out rfl (by decide) _ _ _ rfl (hw.out.alloc _).row ⟨wr.heap.size, 0, none⟩ 2 2 [.int .u8 92, .int .u8 c.toNat] rfl rfl (row_new _ _ _) ?c2 ?c3 ?c4 ?c5 ?_)
          case c2 => intro u hu; simp at hu; first | (subst hu; rfl) | (rcases hu with rfl | rfl <;> rfl) | (rcases hu with rfl | rfl | rfl | rfl <;> rfl)
          case c3 => have := HB.out; unfold maxLen; simp at this ⊢; omega
          case c4 => have := HB.out; simp at this ⊢; omega
          case c5 => exact (hw.out.alloc _).below.size
          intro sv3 w3 hown hgrow _ _
          have HS3 := Lib.hid ((hw.out.alloc _).grown (N := [92, c]) hgrow (by rw [Lib.byteCells_append]; rfl) (by simp) hown)
          have HK3 : Hid (KT wr w3) := Lib.hid (grown_keep (hw.out.alloc _) hgrow ((KT.refl _).alloc _))
          clear hown hgrow
          have HF := Lib.hid (HM.out _ _ _ HE.out HS3.out)
          have HXF := Lib.hid (HK3.out.box hx.out)
          clear HM HK3
          go_wp2_with fail
          go_roundw
          case rel => exact ⟨i + 1, by omega, by go_num, HF, HXF⟩
          case measure => simp [intOf]; omega
        · have n92 : ((c.toNat : Int) == 92) = false := by simpa using (show ¬ (c.toNat : Int) = 92 by omega)
          by_cases hp : 32 ≤ c.toNat ∧ c.toNat ≤ 126
          · obtain ⟨p1, p2⟩ := hp
            have HE : Hid (quoteB c = [c]) := Lib.hid (by unfold quoteB; rw [if_neg (by omega), if_pos (by omega)])
            have HB : Hid (Q.length + 1 ≤ 10000000 - 1) := Lib.hid (by have := HLN.out; rw [HE.out] at this; simpa using this)
            clear h92 h34
            go_wp2_with (at_builtin; refine wpList_append_own_at _ rfl _ _ 63 rfl w0.heap.size 5 i0 (.int .u8 0) 1 1 Tryz.underlying63 HI0.out HZ0.out HZ1.out HZ2.out rfl (by decide) _ _ _ rfl (hw.out.alloc _).row ⟨wr.heap.size, 0, none⟩ 1 1 [.int .u8 c.toNat] rfl rfl (row_new _ _ _) ?c2 ?c3 ?c4 ?c5 ?_)
            case c2 => intro u hu; simp at hu; first | (subst hu; rfl) | (rcases hu with rfl | rfl <;> rfl) | (rcases hu with rfl | rfl | rfl | rfl <;> rfl)
            case c3 => have := HB.out; unfold maxLen; simp at this ⊢; omega
            case c4 => have := HB.out; simp at this ⊢; omega
            case c5 => exact (hw.out.alloc _).below.size
            intro sv3 w3 hown hgrow _ _
            have HS3 := Lib.hid ((hw.out.alloc _).grown (N := [c]) hgrow (by rw [Lib.byteCells_append]; rfl) (by simp) hown)
            have HK3 : Hid (KT wr w3) := Lib.hid (grown_keep (hw.out.alloc _) hgrow ((KT.refl _).alloc _))
            clear hown hgrow
            have HF := Lib.hid (HM.out _ _ _ HE.out HS3.out)
            have HXF := Lib.hid (HK3.out.box hx.out)
            clear HM HK3
            go_wp2_with fail
            go_roundw
            case rel => exact ⟨i + 1, by omega, by go_num, HF, HXF⟩
            case measure => simp [intOf]; omega
          · have e1 : quoteB c = [92, 120, hexd (c.toNat / 16), hexd (c.toNat % 16)] := by unfold quoteB; rw [if_neg (by omega), if_neg hp]
            have HE := Lib.hid e1
            clear e1 h34 h92
            have hp' : c.toNat < 32 ∨ 126 < c.toNat := by omega
            clear hp
            have HBB : Hid (Q.length + 4 ≤ 10000000 - 1) := Lib.hid (by have := HLN.out; rw [HE.out] at this; simpa using this)
            have HN1 : Hid (Q.length + 4 ≤ maxLen) := Lib.hid (by have := HBB.out; unfold maxLen; omega)
            have HN2 : Hid ((Q.length + 4) * 1 ≤ 140737488355328) := Lib.hid (by have := HBB.out; omega)
            have HN3 : ∀ o : Obj, Hid (w0.heap.size ≤ (wr.drew.alloc o).heap.size) := fun o => Lib.hid (by have := hw.out.below.size; simp; omega)
            have HWD : Hid (St w0 w Q (.slice bx Q.length bc) wr.drew) := Lib.hid (hw.out.drew)
            obtain ⟨da, hda⟩ : ∃ da, da = c.toNat / 16 := ⟨_, rfl⟩
            obtain ⟨db, hdb⟩ : ∃ db, db = c.toNat % 16 := ⟨_, rfl⟩
            have d1 : IntKind.u8.wrap ((c.toNat : Int) / 16) = (da : Int) := by unfold IntKind.wrap; simp [IntKind.bits, IntKind.signed]; omega
            have d2 : (c.toNat : Int).tmod 16 = (db : Int) := by rw [Int.tmod_eq_emod_of_nonneg (by omega)]; omega
            have d3 : da < 16 := by omega
            have d4 : db < 16 := by omega
            have d5 : (da : Int) < 16 := by omega
            have d6 : (db : Int) < 16 := by omega
            rw [← hda, ← hdb] at HE
            clear hda hdb
            rcases hp' with hp | hp
            all_goals
              go_wp2_with fail
              go_region_law (refine step_append_lies _ (by rfl) _ _ _ (by rfl) w0.heap.size 5 i0 (.int .u8 0) 1 1 Tryz.underlying63 HI0.out HZ0.out HZ1.out HZ2.out (by rfl) (by decide) _ _ _ (by rfl) (HWD.out.alloc _).row ⟨wr.heap.size, 0, none⟩ 4 4 _ (by rfl) (by rfl) (row_new _ _ _) (four_one _ _ _ _) (by decide) HN1.out HN2.out (HN3 _).out _ rfl ?_; intro g2 cap2 w3 hown3 hgrow3 hat3 hlt3)
            all_goals
              have HS3 := Lib.hid ((HWD.out.alloc _).grown (N := [92, 120, hexd da, hexd db]) hgrow3 (by rw [Lib.byteCells_append]; simp only [Lib.byteCells, List.map_cons, List.map_nil, hex_at]; rfl) (by simp) hown3)
              have HK3 : Hid (KT wr w3) := Lib.hid (grown_keep (HWD.out.alloc _) hgrow3 (KT.alloc ⟨Nat.le_refl _, fun _ _ _ => rfl⟩ _))
              clear hown3 hgrow3 hat3 hlt3
              have HF := Lib.hid (HM.out _ _ _ HE.out HS3.out)
              have HXF := Lib.hid (HK3.out.box hx.out)
              clear HM HK3 d1 d2
              go_wp2_with fail
              go_roundw
              case rel => exact ⟨i + 1, by omega, by go_num, HF, HXF⟩
              case measure => simp [intOf]; omega
    · obtain rfl : i = s.size := by omega
      have HQ2 : Hid (Q = L ++ ([34] ++ quoteL s.data.toList)) := Lib.hid (by rw [HQ.out, List.take_of_length_le (by simp)])
      have HB : Hid (Q.length + 1 ≤ 10000000) := Lib.hid (by rw [HQ2.out]; have := HL.out; simp; omega)
      go_wp2_with (at_builtin; refine wpList_append_own_at _ rfl _ _ 63 rfl w0.heap.size 5 i0 (.int .u8 0) 1 1 Tryz.underlying63 HI0.out HZ0.out HZ1.out HZ2.out rfl (by decide) _ _ _ rfl (hw.out.alloc _).row ⟨wr.heap.size, 0, none⟩ 1 1 [.int .u8 34] rfl rfl (row_new _ _ _) ?c2 ?c3 ?c4 ?c5 ?_)
      case c2 => intro u hu; simp at hu; first | (subst hu; rfl) | (rcases hu with rfl | rfl <;> rfl) | (rcases hu with rfl | rfl | rfl | rfl <;> rfl)
      case c3 => have := HB.out; unfold maxLen; simp at this ⊢; omega
      case c4 => have := HB.out; simp at this ⊢; omega
      case c5 => exact (hw.out.alloc _).below.size
      intro sv3 w3 hown hgrow _ _
      have HS3 := Lib.hid ((hw.out.alloc _).grown (N := [34]) hgrow (by rw [Lib.byteCells_append]; rfl) (by simp) hown)
      have HK3 : Hid (KT wr w3) := Lib.hid (grown_keep (hw.out.alloc _) hgrow ((KT.refl _).alloc _))
      clear hown hgrow
      go_wp2_with fail
      go_ret
      refine wr_all (E := enc (.text s)) (L := L) ?_ (KT.refl _)
      have := HS3.out
      rw [HQ2.out] at this
      simpa [enc, List.append_assoc] using this
end

section
open Go.RowKit
set_option maxRecDepth 100000
def WriteFor (t : VT) : Prop := ∀ (B b : Nat) (v : Value) (bs : List Nat) (l : List UInt8) (w : World), okV t → RepV w t v bs → b ∉ bs → Bld B b l w → l.length + encB t ≤ 140737488355327 → B ≤ w.heap.size → 5 ≤ B → Tabs w →
  Calls Tryz.prog 28 #[.pointer (some ⟨b, 0, none⟩), v] w (Quoted B b (l ++ enc t) w)
theorem Bld.alloc {B b : Nat} {l : List UInt8} {w : World} (h : Bld B b l w) (o : Obj) : Bld B b l (w.alloc o) := Lib.IsBuilderF.alloc h o
theorem Wrote.refl {B b : Nat} {l : List UInt8} {w : World} (h : Bld B b l w) : Wrote B b l w w := ⟨h, Below.refl _ _, Lib.OthersKept.refl _ _ _⟩
theorem Wrote.allocd {B b : Nat} {l : List UInt8} {w : World} (h : Bld B b l w) (hB : B ≤ w.heap.size) (o : Obj) : Wrote B b l w (w.alloc o) := ⟨h.alloc o, (Below.refl _ _).alloc hB _, (Lib.OthersKept.refl _ _ _).alloc o⟩
variable (B b : Nat) (l : List UInt8) (w : World)
set_option maxHeartbeats 2000000 in
theorem w_unit (h : Bld B b l w) (hl : l.length + 4 ≤ 140737488355327) (hB : B ≤ w.heap.size) : Calls Tryz.prog 28 #[.pointer (some ⟨b, 0, none⟩), .iface 89 (.agg #[])] w (Quoted B b (l ++ enc .unit) w) := by
  have H := Lib.hid h
  clear h
  go_enter Tryz.func28, Tryz.ntmps28
  go_wp2_with fail
  refine (put_str B b l _ _ (H.out.alloc _) (by have e : (⟨#[117, 110, 105, 116]⟩ : ByteArray).size = 4 := rfl; rw [e]; omega) (by simp; omega)).mono ?_
  rintro e w1 ⟨rfl, hw1⟩
  have HW := Lib.hid ((Wrote.allocd H.out hB _).trans hw1)
  clear hw1
  go_wp2_with fail
  go_end0
  exact ⟨rfl, HW.out⟩
set_option maxHeartbeats 2000000 in
theorem w_yes (h : Bld B b l w) (hl : l.length + 3 ≤ 140737488355327) (hB : B ≤ w.heap.size) : Calls Tryz.prog 28 #[.pointer (some ⟨b, 0, none⟩), .iface 48 (.bool true)] w (Quoted B b (l ++ enc (.truth true)) w) := by
  have H := Lib.hid h
  clear h
  go_enter Tryz.func28, Tryz.ntmps28
  go_wp2_with fail
  refine (put_str B b l _ _ H.out (by have e : (⟨#[121, 101, 115]⟩ : ByteArray).size = 3 := rfl; rw [e]; omega) hB).mono ?_
  rintro e w1 ⟨rfl, hw1⟩
  have HW := Lib.hid hw1
  clear hw1
  go_wp2_with fail
  go_end0
  exact ⟨rfl, HW.out⟩
set_option maxHeartbeats 2000000 in
theorem w_no (h : Bld B b l w) (hl : l.length + 3 ≤ 140737488355327) (hB : B ≤ w.heap.size) : Calls Tryz.prog 28 #[.pointer (some ⟨b, 0, none⟩), .iface 48 (.bool false)] w (Quoted B b (l ++ enc (.truth false)) w) := by
  have H := Lib.hid h
  clear h
  go_enter Tryz.func28, Tryz.ntmps28
  go_wp2_with fail
  refine (put_str B b l _ _ H.out (by have e : (⟨#[110, 111]⟩ : ByteArray).size = 2 := rfl; rw [e]; omega) hB).mono ?_
  rintro e w1 ⟨rfl, hw1⟩
  have HW := Lib.hid hw1
  clear hw1
  go_wp2_with fail
  go_end0
  exact ⟨rfl, HW.out⟩
theorem size_mk (l : List UInt8) : (⟨l.toArray⟩ : ByteArray).size = l.length := by simp [ByteArray.size]
theorem grow_below {w w' : World} {B : Nat} (hB : B ≤ w.heap.size) (h : ∃ k os, w' = «Sort».grow (w.drewN k) os) : Below B w w' := by
  obtain ⟨k, os, rfl⟩ := h
  exact ⟨rfl, rfl, rfl, by simp [«Sort».grow], fun g hg => by show (w.heap ++ os)[g]? = _; rw [Array.getElem?_append_left (by omega)]⟩
theorem grow_kept {w w' : World} {b : Nat} (h : ∃ k os, w' = «Sort».grow (w.drewN k) os) : Lib.OthersKept 5 (some b) w w' := by
  obtain ⟨k, os, rfl⟩ := h
  intro g o hg _ _
  show (w.heap ++ os)[g]? = _
  rw [Array.getElem?_append_left (Array.getElem?_eq_some_iff.1 hg).1]
  exact hg
theorem grow_bld {w w' : World} {B b : Nat} {l : List UInt8} (hb : Bld B b l w) (h : ∃ k os, w' = «Sort».grow (w.drewN k) os) : Bld B b l w' := by
  obtain ⟨k, os, rfl⟩ := h
  have hk : ∀ g, g < w.heap.size → («Sort».grow (w.drewN k) os).heap[g]? = w.heap[g]? := fun g hg => by
    show (w.heap ++ os)[g]? = _
    rw [Array.getElem?_append_left hg]
  have key : ∀ p, Lib.BuilderAtF 65 5 B b p (Lib.byteCells l) w → Lib.BuilderAtF 65 5 B b p (Lib.byteCells l) («Sort».grow (w.drewN k) os) := by
    rintro p ⟨h1, v, h2, h3, h4⟩
    refine ⟨h1, v, by rw [hk b (Array.getElem?_eq_some_iff.1 h2).1]; exact h2, ⟨h3.1, ?_⟩, h4⟩
    rcases h3.2 with hn | ⟨g, cap, cur, fz, hv, hbg, hg, rest⟩
    · exact .inl hn
    · exact .inr ⟨g, cap, cur, fz, hv, hbg, by rw [hk g (Array.getElem?_eq_some_iff.1 hg).1]; exact hg, rest⟩
  exact hb.imp (key _) (key _)
set_option maxHeartbeats 2000000 in
theorem w_int (n : Int) (hn : -9223372036854775808 ≤ n ∧ n ≤ 9223372036854775807) (h : Bld B b l w) (hl : l.length + 20 ≤ 140737488355327) (hB : B ≤ w.heap.size) (ht : Tabs w) :
    Calls Tryz.prog 28 #[.pointer (some ⟨b, 0, none⟩), .iface 37 (.int .i64 n)] w (Quoted B b (l ++ enc (.int n)) w) := by
  have H := Lib.hid h
  have HT := Lib.hid ht
  have HL := Lib.hid (itoa_len hn)
  clear h ht
  obtain ⟨n0, n1⟩ := hn
  go_enter Tryz.func28, Tryz.ntmps28
  go_wp2_with fail
  refine (Tryz.strconv_FormatInt_10 n n0 n1 _ HT.out.1).mono ?_
  rintro e w1 ⟨rfl, hg⟩
  have HG := Lib.hid hg
  clear hg
  go_wp2_with fail
  refine (put_str B b l _ _ (grow_bld H.out HG.out) (by rw [size_mk]; have := HL.out; omega) (Nat.le_trans hB (grow_below hB HG.out).size)).mono ?_
  rintro e w2 ⟨rfl, hw⟩
  have HW : Hid (Wrote B b (l ++ Lib.itoa n) w1 w2) := hw
  clear hw
  go_wp2_with fail
  go_end0
  exact ⟨rfl, HW.out.1, (grow_below hB HG.out).trans HW.out.2.1, (grow_kept HG.out).trans HW.out.2.2⟩
set_option maxHeartbeats 2000000 in
theorem w_text (s : ByteArray) (h : Bld B b l w) (hl : l.length + (4 * s.size + 2) ≤ 140737488355327) (hB : B ≤ w.heap.size) :
    Calls Tryz.prog 28 #[.pointer (some ⟨b, 0, none⟩), .iface 90 (.string s)] w (Quoted B b (l ++ enc (.text s)) w) := by
  have H := Lib.hid h
  clear h
  go_enter Tryz.func28, Tryz.ntmps28
  go_wp2_with fail
  refine (quote_any B b l s _ H.out (by omega) hB).mono ?_
  rintro e w1 ⟨rfl, hw1⟩
  have HW := Lib.hid hw1
  clear hw1
  go_wp2_with fail
  go_end0
  exact ⟨rfl, HW.out⟩
end

section
open Go.RowKit
set_option maxRecDepth 100000
theorem own_cells_others {w w' : World} {sv : Value} {n b : Nat} {vs : List Value} (h : w.ownsRow 0 32 1 sv n vs) (hb : sv.ownBlock ≠ some b) (hk : Lib.OthersKept 5 (some b) w w') : w'.ownsRow 0 32 1 sv n vs := ownsRow_others h hb hk
theorem encL_take_succ (ts : List VT) (i : Nat) (h : i < ts.length) : encL (ts.take (i + 1)) = encL (ts.take i) ++ ((if 0 < i then [44, 32] else []) ++ enc ts[i]) := by
  rw [List.take_succ_eq_append_getElem h]
  by_cases h0 : 0 < i
  · rw [if_pos h0, encL_snoc _ _ (by intro e; have := congrArg List.length e; simp only [List.length_take, List.length_nil] at this; omega)]
  · have : i = 0 := by omega
    subst this
    simp [encL, encR]
set_option maxHeartbeats 4000000 in
theorem w_list (B b : Nat) (l : List UInt8) (w : World) (ts : List VT) (ih : ∀ t ∈ ts, WriteFor t) (v : Value) (bs : List Nat) (ho : okVs ts) (hv : RepV w (.list ts) v bs) (hbs : b ∉ bs) (h : Bld B b l w)
    (hl : l.length + (2 + encBs ts) ≤ 140737488355327) (hB : B ≤ w.heap.size) (h5 : 5 ≤ B) (ht : Tabs w) :
    Calls Tryz.prog 28 #[.pointer (some ⟨b, 0, none⟩), v] w (Quoted B b (l ++ enc (.list ts)) w) := by
  obtain ⟨sv, vs, bl, rfl, hown, hr, rfl⟩ := hv
  have hsb : sv.ownBlock ≠ some b := fun e => hbs (by simp [e])
  have hbl : b ∉ bl := fun e => hbs (by simp [e])
  obtain ⟨la, lc, rfl, hmx, hca⟩ := own_cells hown
  have HO := Lib.hid hown
  have HSB := Lib.hid hsb
  have HBL := Lib.hid hbl
  have HIH := Lib.hid ih
  have HOK := Lib.hid ho
  have HR := Lib.hid hr
  have H := Lib.hid h
  have HT := Lib.hid ht
  clear hca hown hsb hbl ih ho hr h ht hbs
  go_enter Tryz.func28, Tryz.ntmps28
  go_wp2_with fail
  refine (put_byte B b l 91 _ rfl _ H.out (by omega) hB).mono ?_
  rintro e w0 ⟨rfl, hw0⟩
  have HW0 := Lib.hid hw0
  clear hw0
  go_wp2_with fail
  go_loopw [45] (fun iv wr => ∃ (i : Nat), i ≤ ts.length ∧ iv = .int .i64 i ∧ Hid (Wrote B b (l ++ ([91] ++ encL (ts.take i))) w wr))
    (fun i _ => ts.length - (intOf i).toNat)
  case atStart => exact ⟨0, by omega, rfl, Lib.hid (by simpa [encL] using HW0.out)⟩
  case round =>
    obtain ⟨i, hi, rfl, hw⟩ := hrel
    have hwB : B ≤ wr.heap.size := Nat.le_trans hB hw.out.2.1.size
    by_cases hlt : i < ts.length
    · obtain ⟨la', lc', e', _, hca⟩ := own_cells (own_cells_others HO.out HSB.out hw.out.2.2)
      obtain ⟨rfl, rfl⟩ : la = la' ∧ lc = lc' := by simpa using e'
      clear e'
      obtain ⟨g, rfl, hg⟩ := hca (by omega)
      obtain ⟨x, bx, hx, hrx, hbx⟩ := RepVs.get _ _ _ HR.out i hlt
      have c1 : wr.cell? ⟨g, i, none⟩ = some x := hg i x hx
      obtain ⟨tx, ux, rfl⟩ := hrx.iface
      have HRX := Lib.hid (RepV.others hw.out.2.2 _ _ _ (fun e => HBL.out (hbx b e)) hrx)
      have HBX : Hid (b ∉ bx) := Lib.hid (fun e => HBL.out (hbx b e))
      have HS := Lib.hid (encL_take_succ ts i hlt)
      have hlen : (encL (ts.take i)).length + (encB ts[i] + 2) ≤ encBs ts := Nat.le_trans (by have := encL_len _ (okVs_take ts i HOK.out); omega) (encBs_take ts i hlt)
      have HL := Lib.hid hlen
      have HOI := Lib.hid (okVs_get ts i hlt HOK.out)
      have HII := Lib.hid (HIH.out ts[i] (List.getElem_mem hlt))
      clear hg hca hx hrx hbx hlen
      by_cases h0 : 0 < i
      · go_wp2_with fail
        refine (put_str B b _ _ _ hw.out.1 (by have e : (⟨#[44, 32]⟩ : ByteArray).size = 2 := rfl; rw [e]; have := HL.out; simp; omega) hwB).mono ?_
        rintro e w1 ⟨rfl, hw1⟩
        have HW1 : Hid (Wrote B b (l ++ ([91] ++ encL (ts.take i)) ++ [44, 32]) wr w1) := hw1
        clear hw1
        go_wp2_with fail
        refine (HII.out B b _ bx _ w1 HOI.out (RepV.others HW1.out.2.2 _ _ _ HBX.out HRX.out) HBX.out HW1.out.1 (by have := HL.out; simp; omega) (Nat.le_trans hwB HW1.out.2.1.size) h5 (HT.out.below (hw.out.2.1.trans HW1.out.2.1) h5)).mono ?_
        rintro e w2 ⟨rfl, hw2⟩
        have HW2 : Hid (Wrote B b (l ++ ([91] ++ encL (ts.take (i + 1)))) w w2) := by
          have h9 := hw.out.trans (HW1.out.trans hw2)
          show Wrote _ _ _ _ _
          rw [HS.out, if_pos h0]
          simpa [List.append_assoc] using h9
        clear hw2
        go_wp2_with fail
        go_roundw
        case rel => exact ⟨i + 1, by omega, by go_num, HW2⟩
        case measure => simp [intOf]; omega
      · obtain rfl : i = 0 := by omega
        go_wp2_with fail
        refine (HII.out B b _ bx _ wr HOI.out HRX.out HBX.out hw.out.1 (by have := HL.out; simp at this ⊢; omega) hwB h5 (HT.out.below hw.out.2.1 h5)).mono ?_
        rintro e w2 ⟨rfl, hw2⟩
        have HW2 : Hid (Wrote B b (l ++ ([91] ++ encL (ts.take (0 + 1)))) w w2) := by
          have h9 := hw.out.trans hw2
          show Wrote _ _ _ _ _
          rw [HS.out, if_neg (by omega)]
          simpa [List.append_assoc] using h9
        clear hw2
        go_wp2_with fail
        go_roundw
        case rel => exact ⟨0 + 1, by omega, by go_num, HW2⟩
        case measure => simp [intOf]; omega
    · have e1 : ts.take i = ts := List.take_of_length_le (by omega)
      have HE := Lib.hid e1
      have HL := Lib.hid (encL_len ts HOK.out)
      clear e1
      go_wp2_with fail
      refine (put_byte B b _ 93 _ rfl _ hw.out.1 (by rw [HE.out]; have := HL.out; simp; omega) hwB).mono ?_
      rintro e w1 ⟨rfl, hw1⟩
      have HW1 := Lib.hid (hw.out.trans hw1)
      clear hw1
      go_wp2_with fail
      go_end0
      exact ⟨rfl, by have := HW1.out; rw [HE.out] at this; simpa [enc, List.append_assoc] using this⟩
mutual
theorem write_any : ∀ t : VT, WriteFor t
  | .unit => by
    intro B b v bs l w ho hv hb h hl hB h5 ht
    obtain ⟨rfl, _⟩ := hv
    exact w_unit B b l w h hl hB
  | .truth p => by
    intro B b v bs l w ho hv hb h hl hB h5 ht
    obtain ⟨rfl, _⟩ := hv
    cases p
    · exact w_no B b l w h hl hB
    · exact w_yes B b l w h hl hB
  | .int n => by
    intro B b v bs l w ho hv hb h hl hB h5 ht
    obtain ⟨rfl, _⟩ := hv
    exact w_int B b l w n ho h hl hB ht
  | .text s => by
    intro B b v bs l w ho hv hb h hl hB h5 ht
    obtain ⟨rfl, _⟩ := hv
    exact w_text B b l w s h hl hB
  | .list ts => by
    have ih := write_all ts
    intro B b v bs l w ho hv hb h hl hB h5 ht
    exact w_list B b l w ts ih v bs ho hv hb h hl hB h5 ht
theorem write_all : ∀ l : List VT, ∀ t ∈ l, WriteFor t
  | [], t, h => by simp at h
  | q :: r, t, h => by
    have h1 := write_any q
    have h2 := write_all r
    rcases List.mem_cons.1 h with rfl | h
    · exact h1
    · exact h2 t h
end
end
end Go.Proofs.YtkpnnhebfaggeaaGreatDoor
