/-
  The digits of a number, and that they are a use just from 1 to 64: walks by the kit.
  Conditions: none.
-/
import Derived.Test.YtlpgfdhihimjaaaKitA
import Derived.Lib.ItoaNum
import Derived.Laws.RangeString
import Derived.Laws.EntriesVeiled
import Derived.Lib.ItoaLen
set_option linter.unusedVariables false
set_option linter.unusedSimpArgs false
namespace Go.Proofs.Ytlpgfdhihimjaaa
section
open Go.RowKit
set_option maxRecDepth 100000
theorem heap_set {w : World} {b j : Nat} {cs : Array Value} {t : TypeId} (h : w.heap[b]? = some (.cells cs t (0, 0))) (v : Value) : (w.setCell ⟨b, j, none⟩ v).heap[b]? = some (.cells (cs.set! j v) t (0, 0)) := by
  unfold World.setCell
  simp [Array.getElem?_modify, h]
/-- Digits laid from a place on. -/
def DigAt (A U u a : Nat) (wr : World) : Prop := ∃ (cs : Array Value) (suf : List UInt8), wr.heap[A]? = some (.cells cs 113 (0, 0)) ∧ cs.size = 21 ∧ a + suf.length = 21 ∧ (∀ j (h : j < suf.length), cs[a + j]? = some (.int .u8 (suf[j].toNat : Int))) ∧ Lib.decDigits U = Lib.decDigits u ++ suf
def TxtAt (A a : Nat) (l : List UInt8) (wr : World) : Prop := ∃ (cs : Array Value), wr.heap[A]? = some (.cells cs 113 (0, 0)) ∧ cs.size = 21 ∧ a + l.length = 21 ∧ (∀ j (h : j < l.length), cs[a + j]? = some (.int .u8 (l[j].toNat : Int)))
theorem decDigits_big {u : Nat} (h : ¬ u < 10) : Lib.decDigits u = Lib.decDigits (u / 10) ++ [UInt8.ofNat (48 + u % 10)] := by rw [Lib.decDigits, dif_neg h]
theorem set_txt {A a : Nat} {cs : Array Value} {l : List UInt8} {wr : World} (h1 : wr.heap[A]? = some (.cells cs 113 (0, 0))) (h2 : cs.size = 21) (h3 : a + 1 + l.length = 21) (h4 : ∀ j (h : j < l.length), cs[a + 1 + j]? = some (.int .u8 (l[j].toNat : Int))) (c : UInt8) :
    TxtAt A a (c :: l) (wr.setCell ⟨A, a, none⟩ (.int .u8 (c.toNat : Int))) := by
  refine ⟨_, heap_set h1 _, by rw [Array.size_set!]; exact h2, by simp; omega, fun j hj => ?_⟩
  cases j with
  | zero =>
    have : a < cs.size := by omega
    simp [Array.set!_eq_setIfInBounds, this]
  | succ j =>
    have := h4 j (by simpa using hj)
    rw [Array.set!_eq_setIfInBounds, Array.getElem?_setIfInBounds_ne (by omega)]
    rw [show a + (j + 1) = a + 1 + j from by omega]
    simpa using this
theorem DigAt.step {A U u a : Nat} {wr : World} (h : DigAt A U u (a + 1) wr) (hu : ¬ u < 10) : DigAt A U (u / 10) a (wr.setCell ⟨A, a, none⟩ (.int .u8 (48 + (u : Int) % 10))) := by
  obtain ⟨cs, suf, h1, h2, h3, h4, h5⟩ := h
  have hc : ((UInt8.ofNat (48 + u % 10)).toNat : Int) = 48 + (u : Int) % 10 := by
    rw [UInt8.toNat_ofNat', Nat.mod_eq_of_lt (by omega)]; omega
  obtain ⟨cs', g1, g2, g3, g4⟩ := set_txt h1 h2 h3 h4 (UInt8.ofNat (48 + u % 10))
  rw [hc] at g1
  exact ⟨cs', _, g1, g2, g3, g4, by rw [h5, decDigits_big hu, List.append_assoc]; rfl⟩
theorem DigAt.last {A U u a : Nat} {wr : World} (h : DigAt A U u (a + 1) wr) (hu : u < 10) : TxtAt A a (Lib.decDigits U) (wr.setCell ⟨A, a, none⟩ (.int .u8 (48 + (u : Int) % 10))) := by
  obtain ⟨cs, suf, h1, h2, h3, h4, h5⟩ := h
  have hc : ((UInt8.ofNat (48 + u)).toNat : Int) = 48 + (u : Int) % 10 := by
    rw [UInt8.toNat_ofNat', Nat.mod_eq_of_lt (by omega)]; omega
  have := set_txt h1 h2 h3 h4 (UInt8.ofNat (48 + u))
  rw [hc] at this
  rw [h5, Lib.decDigits_one hu]
  exact this
theorem TxtAt.conv {A a : Nat} {l : List UInt8} {wr : World} (h : TxtAt A a l wr) (w' : World) (hw : w'.heap = wr.heap) (cap n : Nat) (hn : n = l.length) : (convert 115 9 (.slice (some ⟨A, a, none⟩) n cap)).run Try.prog w' = .ok (.string ⟨l.toArray⟩) w' := by
  obtain ⟨cs, h1, h2, h3, h4⟩ := h
  subst hn
  refine run_convert_bytes_back w' 115 9 5 ⟨A, a, none⟩ cap l Try.underlying115 Try.underlying5 Try.underlying9 fun j hj => ?_
  have e1 : (⟨A, a, none⟩ : Addr).add j = ⟨A, a + j, none⟩ := by unfold Addr.add; split <;> simp_all
  rw [e1]
  rw [(heapcell (hw ▸ h1) (a + j)).1]
  exact h4 j hj
theorem slice113 (b a : Nat) (ha : a ≤ 20) (W : World) : (Instr.sliceAt 113 (.pointer (some ⟨b, 0, none⟩)) (some (.int .i64 (a : Int))) none none).run Try.prog W = .ok (.slice (some ⟨b, a, none⟩) (21 - a) (21 - a)) W := by
  have h := run_sliceAt_array_l (P := Try.prog) W 113 ⟨b, 0, none⟩ (by kernel_rfl) .i64 (a : Int) (by omega) (by rw [show Try.prog.arrayLen 113 = 21 from by kernel_rfl]; omega)
  rw [h, show Try.prog.elem 113 = 5 from by kernel_rfl, show (sizeOf 5).run Try.prog W = .ok 1 W from by kernel_rfl, show Try.prog.arrayLen 113 = 21 from by kernel_rfl]
  simp only [Result.andThen, slicedAt, Int.toNat_natCast]
  rw [if_neg (by omega)]
  simp [Addr.add]
  exact fun h => h.symm
set_option maxHeartbeats 2000000 in
theorem digits_any (w : World) (n : Int) (hn : -9223372036854775808 ≤ n ∧ n ≤ 9223372036854775807) : Calls Try.prog 13 #[.int .i64 n] w (RetB w (.string ⟨(Lib.itoa n).toArray⟩)) := by
  have hz : TxtAt w.heap.size 21 [] (w.alloc (.cells #[.int .u8 0, .int .u8 0, .int .u8 0, .int .u8 0, .int .u8 0, .int .u8 0, .int .u8 0, .int .u8 0, .int .u8 0, .int .u8 0, .int .u8 0, .int .u8 0, .int .u8 0, .int .u8 0, .int .u8 0, .int .u8 0, .int .u8 0, .int .u8 0, .int .u8 0, .int .u8 0, .int .u8 0] 113)) :=
    ⟨_, heap_alloc_new w _, rfl, rfl, fun j h => by simp at h⟩
  have hb := alloc_below w (.cells #[.int .u8 0, .int .u8 0, .int .u8 0, .int .u8 0, .int .u8 0, .int .u8 0, .int .u8 0, .int .u8 0, .int .u8 0, .int .u8 0, .int .u8 0, .int .u8 0, .int .u8 0, .int .u8 0, .int .u8 0, .int .u8 0, .int .u8 0, .int .u8 0, .int .u8 0, .int .u8 0, .int .u8 0] 113)
  obtain ⟨U, hU⟩ : ∃ U : Nat, U = n.natAbs := ⟨_, rfl⟩
  have HU := Lib.hid hU
  have hU2 : (U : Int) ≤ 9223372036854775808 := by omega
  have hD : DigAt w.heap.size U U 21 (w.alloc (.cells #[.int .u8 0, .int .u8 0, .int .u8 0, .int .u8 0, .int .u8 0, .int .u8 0, .int .u8 0, .int .u8 0, .int .u8 0, .int .u8 0, .int .u8 0, .int .u8 0, .int .u8 0, .int .u8 0, .int .u8 0, .int .u8 0, .int .u8 0, .int .u8 0, .int .u8 0, .int .u8 0, .int .u8 0] 113)) := by
    obtain ⟨cs, h1, h2, h3, h4⟩ := hz
    exact ⟨cs, [], h1, h2, h3, h4, by simp⟩
  have HD := Lib.hid hD
  have HB := Lib.hid hb
  have hP : U < 10 ^ 20 := by omega
  have HP := Lib.hid hP
  have hw1 : n < 0 → IntKind.u64.wrap (-IntKind.u64.wrap n) = (U : Int) := fun h => by unfold IntKind.wrap; simp [IntKind.bits, IntKind.signed]; omega
  have hw2 : ¬ n < 0 → n = (U : Int) := fun h => by omega
  have HW1 := Lib.hid hw1
  have HW2 := Lib.hid hw2
  clear hz hb hU hD hP hw1 hw2
  go_enter Try.func13, Try.ntmps13
  by_cases h0 : n < 0
  · go_wp2_with fail
    rw [HW1.out h0]
    generalize hW1 : w.alloc _ = wa at HD HB ⊢
    clear hW1
    go_loopw [4, 5] (fun av uv wr => ∃ (a u : Nat), 1 ≤ a ∧ a ≤ 20 ∧ u ≤ U ∧ av = .int .i64 ((a : Int) + 1) ∧ uv = .int .u64 u ∧ Hid (u < 10 ^ a) ∧ Hid (DigAt w.heap.size U u (a + 1) wr) ∧ Hid (Below w.heap.size w wr))
      (fun _ uv _ => (intOf uv).toNat)
    case atStart => exact ⟨20, U, by omega, by omega, by omega, rfl, rfl, HP, HD, HB⟩
    case round =>
      obtain ⟨a, u, ha1, ha2, huU, rfl, rfl, hp, hD, hB⟩ := hrel
      obtain ⟨xk, b0, f0⟩ : ∃ xk, wr.cell? ⟨w.heap.size, a, none⟩ = some xk ∧ wr.frozen? ⟨w.heap.size, a, none⟩ = false := by
        obtain ⟨cs, suf, h1, h2, _⟩ := hD.out
        exact ⟨cs[a]'(by omega), by rw [(heapcell h1 a).1, Array.getElem?_eq_getElem (by omega)], (heapcell h1 a).2⟩
      by_cases hu : u < 10
      · have hu0 : (u : Int) / 10 = 0 := by omega
        have HT := Lib.hid (hD.out.last hu)
        have HBs := Lib.hid (hB.out.setCell (p := ⟨w.heap.size, a, none⟩) (Nat.le_refl _) (.int .u8 (48 + (u : Int) % 10)))
        obtain ⟨xj, b1, f1⟩ : ∃ xj, wr.cell? ⟨w.heap.size, a - 1, none⟩ = some xj ∧ wr.frozen? ⟨w.heap.size, a - 1, none⟩ = false := by
          obtain ⟨cs, suf, h1, h2, _⟩ := hD.out
          exact ⟨cs[a - 1]'(by omega), by rw [(heapcell h1 (a - 1)).1, Array.getElem?_eq_getElem (by omega)], (heapcell h1 (a - 1)).2⟩
        have hs := slice113 w.heap.size (a - 1) (by omega)
        rw [show ((a - 1 : Nat) : Int) = (a : Int) - 1 from by omega] at hs
        have HT2 : Hid (TxtAt w.heap.size (a - 1) (45 :: Lib.decDigits U) ((wr.setCell ⟨w.heap.size, a, none⟩ (.int .u8 (48 + (u : Int) % 10))).setCell ⟨w.heap.size, a - 1, none⟩ (.int .u8 45))) := Lib.hid (by
          obtain ⟨cs, h1, h2, h3, h4⟩ := HT.out
          exact set_txt h1 h2 (by omega) (fun j hj => by rw [show a - 1 + 1 + j = a + j from by omega]; exact h4 j hj) 45)
        have hcv := HT2.out.conv _ rfl (21 - (a - 1)) (21 - (a - 1)) (by
          obtain ⟨cs, h1, h2, h3, h4⟩ := HT2.out
          omega)
        have hi : Lib.itoa n = 45 :: Lib.decDigits U := by unfold Lib.itoa; rw [if_pos h0, HU.out]
        have HI := Lib.hid hi
        have HBt := Lib.hid (HBs.out.setCell (p := ⟨w.heap.size, a - 1, none⟩) (Nat.le_refl _) (.int .u8 45))
        clear hi
        go_wp2_with fail
        go_ret
        exact ⟨by rw [HI.out]; rfl, HBt.out⟩
      · have hu0 : ¬ (u : Int) / 10 = 0 := by omega
        have ha3 : 2 ≤ a := by
          have := hp.out
          rcases (by omega : a = 1 ∨ 2 ≤ a) with rfl | h
          · simp at this; omega
          · exact h
        have HT := Lib.hid (hD.out.step hu)
        have hp2 : Hid (u / 10 < 10 ^ (a - 1)) := Lib.hid (by
          have := hp.out
          rw [show a = a - 1 + 1 from by omega, Nat.pow_succ] at this
          omega)
        go_wp2_with fail
        go_roundw
        case rel => exact ⟨a - 1, u / 10, by omega, by omega, by omega, by go_num, by go_num, hp2, Lib.hid (by have := HT.out; rw [show a - 1 + 1 = a from by omega]; exact this), Lib.hid (hB.out.setCell (Nat.le_refl _) _)⟩
        case measure => simp [intOf]; omega
  · obtain rfl := HW2.out h0
    go_wp2_with fail
    generalize hW1 : w.alloc _ = wa at HD HB ⊢
    clear hW1
    go_loopw [4, 5] (fun av uv wr => ∃ (a u : Nat), 1 ≤ a ∧ a ≤ 20 ∧ u ≤ U ∧ av = .int .i64 ((a : Int) + 1) ∧ uv = .int .u64 u ∧ Hid (u < 10 ^ a) ∧ Hid (DigAt w.heap.size U u (a + 1) wr) ∧ Hid (Below w.heap.size w wr))
      (fun _ uv _ => (intOf uv).toNat)
    case atStart => exact ⟨20, U, by omega, by omega, by omega, rfl, rfl, HP, HD, HB⟩
    case round =>
      obtain ⟨a, u, ha1, ha2, huU, rfl, rfl, hp, hD, hB⟩ := hrel
      obtain ⟨xk, b0, f0⟩ : ∃ xk, wr.cell? ⟨w.heap.size, a, none⟩ = some xk ∧ wr.frozen? ⟨w.heap.size, a, none⟩ = false := by
        obtain ⟨cs, suf, h1, h2, _⟩ := hD.out
        exact ⟨cs[a]'(by omega), by rw [(heapcell h1 a).1, Array.getElem?_eq_getElem (by omega)], (heapcell h1 a).2⟩
      by_cases hu : u < 10
      · have hu0 : (u : Int) / 10 = 0 := by omega
        have HT := Lib.hid (hD.out.last hu)
        have HBs := Lib.hid (hB.out.setCell (p := ⟨w.heap.size, a, none⟩) (Nat.le_refl _) (.int .u8 (48 + (u : Int) % 10)))
        have hs := slice113 w.heap.size a (by omega)
        have hcv := HT.out.conv _ rfl (21 - a) (21 - a) (by
          obtain ⟨cs, h1, h2, h3, h4⟩ := HT.out
          omega)
        have hi : Lib.itoa (U : Int) = Lib.decDigits U := by unfold Lib.itoa; rw [if_neg (by omega)]; rfl
        have HI := Lib.hid hi
        have HBt := HBs
        clear hi
        go_wp2_with fail
        go_ret
        exact ⟨by rw [HI.out]; rfl, HBt.out⟩
      · have hu0 : ¬ (u : Int) / 10 = 0 := by omega
        have ha3 : 2 ≤ a := by
          have := hp.out
          rcases (by omega : a = 1 ∨ 2 ≤ a) with rfl | h
          · simp at this; omega
          · exact h
        have HT := Lib.hid (hD.out.step hu)
        have hp2 : Hid (u / 10 < 10 ^ (a - 1)) := Lib.hid (by
          have := hp.out
          rw [show a = a - 1 + 1 from by omega, Nat.pow_succ] at this
          omega)
        go_wp2_with fail
        go_roundw
        case rel => exact ⟨a - 1, u / 10, by omega, by omega, by omega, by go_num, by go_num, hp2, Lib.hid (by have := HT.out; rw [show a - 1 + 1 = a from by omega]; exact this), Lib.hid (hB.out.setCell (Nat.le_refl _) _)⟩
        case measure => simp [intOf]; omega
end

section
open Go.RowKit
set_option maxRecDepth 100000
theorem digit_any (w : World) (c : Int) (hc : 0 ≤ c ∧ c < 128) : Calls Try.prog 79 #[.int .i32 c] w fun e w' => e = .returned (.bool (decide (48 ≤ c ∧ c ≤ 57))) ∧ w' = w := by
  go_enter Try.func79, Try.ntmps79
  by_cases h1 : 48 ≤ c
  · by_cases h2 : c ≤ 57
    · go_wp2_with fail
      go_ret
      exact ⟨by simp [h1, h2], rfl⟩
    · go_wp2_with fail
      go_ret
      exact ⟨by simp [h2], rfl⟩
  · go_wp2_with fail
    go_ret
    exact ⟨by simp; omega, rfl⟩
theorem small_no (w : World) (c : Int) (hc : 0 ≤ c ∧ c < 65) : Calls Try.prog 76 #[.int .i32 c] w fun e w' => e = .returned (.bool false) ∧ w' = w := by
  have h : ¬ 97 ≤ c := by omega
  go_enter Try.func76, Try.ntmps76
  go_wp2_with fail
  go_ret
  exact ⟨rfl, rfl⟩
theorem first_no (w : World) (c : Int) (hc : 0 ≤ c ∧ c < 65) : Calls Try.prog 75 #[.int .i32 c] w fun e w' => e = .returned (.bool false) ∧ w' = w := by
  have h : ¬ 97 ≤ c := by omega
  have h2 : ¬ 65 ≤ c := by omega
  have h3 : (c == 95) = false := by simp; omega
  go_enter Try.func75, Try.ntmps75
  go_wp2_with fail
  refine (small_no w c hc).mono ?_
  rintro e w' ⟨rfl, rfl⟩
  go_wp2_with fail
  go_ret
  exact ⟨rfl, rfl⟩
theorem not_empty {s : ByteArray} (h0 : 0 < s.size) : s.toList.isEmpty = false := by
  rw [ByteArray.toList_eq]
  have : s.data.toList ≠ [] := fun e => by
    have h : s.data.toList.length = 0 := by rw [e]; rfl
    rw [Array.length_toList] at h
    have h2 : s.size = s.data.size := rfl
    omega
  cases h : s.data.toList with
  | nil => exact absurd h this
  | cons a r => rfl
def ItW (w : World) (s : ByteArray) (p : Nat) (wr : World) : Prop := wr = w.iter s p
theorem made_no (w : World) (s : ByteArray) (c2 : Value) (h0 : 0 < s.size) (hs : s.size ≤ 32) (hc : (s[0]'h0).toNat < 65) :
    Calls Try.prog 77 #[.string s, .int .i64 32, .func (.func 75) #[] #[], c2] w (RetB w (.bool false)) := by
  have hne := not_empty h0
  have hnx : ∀ ty, (Instr.next (.pointer (some ⟨w.heap.size, 0, none⟩)) true ty).run Try.prog (w.iter s 0) = _ := fun ty => run_next_ascii (P := Try.prog) w s 0 ty h0 (by omega)
  have hsI : ¬ (32 : Int) < (s.size : Int) := by omega
  have hci : (0 : Int) ≤ ((s[0]'h0).toNat : Int) ∧ ((s[0]'h0).toNat : Int) < 65 := by omega
  have HCI := Lib.hid hci
  clear hci
  have hbw : Below w.heap.size w (w.iter s (0 + 1)) := alloc_below w _
  have HB := Lib.hid hbw
  clear hbw hc hs
  generalize (s[0]'h0).toNat = c at hnx HCI
  go_enter Try.func77, Try.ntmps77
  go_wp2_with fail
  go_loopw [] (fun wr => Hid (ItW w s 0 wr)) (fun _ => 0)
  case atStart => exact Lib.hid rfl
  case round =>
    obtain hw := hrel.out
    unfold ItW at hw
    subst hw
    clear hrel
    go_wp2_with fail
    refine (first_no _ c HCI.out).mono ?_
    rintro e w' ⟨rfl, rfl⟩
    go_wp2_with fail
    go_ret
    exact ⟨rfl, HB.out⟩
end

section
open Go.RowKit
set_option maxRecDepth 100000
theorem name_no (w : World) (s : ByteArray) (h0 : 0 < s.size) (hs : s.size ≤ 32) (hc : (s[0]'h0).toNat < 65) : Calls Try.prog 42 #[.string s] w (RetB w (.bool false)) := by
  have hmf : ∀ (fn : Fn) (first cap : Array Value) (w : World), (Instr.makeFunc fn first cap).run Try.prog w = .ok (.func fn first cap) w := fun _ _ _ _ => rfl
  go_enter Try.func42, Try.ntmps42
  go_wp2_with fail
  refine (made_no _ s _ h0 hs hc).mono ?_
  rintro e w' ⟨rfl, hb⟩
  go_wp2_with fail
  go_ret
  exact ⟨rfl, below_step (alloc_below w _) hb⟩
/-- The number that digits stand for. -/
def valD : List UInt8 → Nat → Nat
  | [], n => n
  | c :: r, n => valD r (10 * n + (c.toNat - 48))
theorem valD_app : ∀ (l r : List UInt8) (n : Nat), valD (l ++ r) n = valD r (valD l n)
  | [], r, n => rfl
  | c :: l, r, n => by simp only [List.cons_append, valD]; exact valD_app l r _
theorem take_next {s : ByteArray} {p : Nat} (h : p < s.size) : s.data.toList.take (p + 1) = s.data.toList.take p ++ [s[p]'h] := by
  rw [List.take_succ_eq_append_getElem (by simpa using h)]
  rfl
theorem valD_lt : ∀ {l : List UInt8}, (∀ c ∈ l, 48 ≤ c.toNat ∧ c.toNat ≤ 57) → l.length ≤ 4 → valD l 0 < 10000
  | [], _, _ => by simp [valD]
  | [a], h, _ => by have := h a (by simp); simp [valD]; omega
  | [a, b], h, _ => by have := h a (by simp); have := h b (by simp); simp [valD]; omega
  | [a, b, c], h, _ => by have := h a (by simp); have := h b (by simp); have := h c (by simp); simp [valD]; omega
  | [a, b, c, d], h, _ => by have := h a (by simp); have := h b (by simp); have := h c (by simp); have := h d (by simp); simp [valD]; omega
  | a :: b :: c :: d :: e :: r, _, hl => by simp at hl
/-- Digits alone, four at most, no nought ahead. -/
theorem number_dig (w : World) (s : ByteArray) (h0 : 0 < s.size) (hs : s.size ≤ 4) (hd : ∀ i (h : i < s.size), 48 ≤ (s[i]'h).toNat ∧ (s[i]'h).toNat ≤ 57) (hz : s.toList = [48] ∨ 49 ≤ (s[0]'h0).toNat) :
    Calls Try.prog 74 #[.string s] w (RetB w (.tuple #[.int .i64 (valD s.data.toList 0 : Nat), .bool true])) := by
  have hne := not_empty h0
  have hsI : ¬ (4 : Int) < (s.size : Int) := by omega
  by_cases hz1 : 49 ≤ (s[0]'h0).toNat
  · have hq : (((s[0]'h0).toNat : Int) == 48) = false := by simp; omega
    clear hz
    go_enter Try.func74, Try.ntmps74
    go_wp2_with fail
    go_loopw [4] (fun nv wr => ∃ (p n : Nat), p ≤ s.size ∧ nv = .int .i64 n ∧ n < 10000 ∧ Hid (n = valD (s.data.toList.take p) 0) ∧ Hid (ItW w s p wr)) (fun _ wr => s.size - wr.iterPos w.heap.size)
    case atStart => exact ⟨0, 0, by omega, rfl, by omega, Lib.hid (by simp [valD]), Lib.hid rfl⟩
    case round =>
      obtain ⟨p, n, hp, rfl, hn, hv, hw⟩ := hrel
      have hw' := hw.out
      unfold ItW at hw'
      subst hw'
      clear hw
      by_cases hlt : p < s.size
      · have hc := hd p hlt
        have hnx : ∀ ty, (Instr.next (.pointer (some ⟨w.heap.size, 0, none⟩)) true ty).run Try.prog (w.iter s p) = _ := fun ty => run_next_ascii (P := Try.prog) w s p ty hlt (by omega)
        have hv2 : 10 * n + ((s[p]'hlt).toNat - 48) = valD (s.data.toList.take (p + 1)) 0 := by
          rw [take_next hlt, valD_app, ← hv.out]
          rfl
        have hb : 10 * n + ((s[p]'hlt).toNat - 48) < 10000 := by
          rw [hv2]
          exact valD_lt (fun c hcm => by
            obtain ⟨i, hi, rfl⟩ := List.getElem_of_mem (List.mem_of_mem_take hcm)
            exact hd i (by simpa using hi)) (by rw [List.length_take]; omega)
        have HV2 := Lib.hid hv2
        generalize (s[p]'hlt).toNat = c at hnx hc hb HV2
        have hcI : (0 : Int) ≤ (c : Int) ∧ (c : Int) < 128 := by omega
        have hdI : decide ((48 : Int) ≤ (c : Int) ∧ (c : Int) ≤ 57) = true := by simp; omega
        have HDI := Lib.hid hdI
        clear hv hv2 hdI
        go_wp2_with fail
        refine (digit_any _ (c : Int) hcI).mono ?_
        rintro e w' ⟨rfl, rfl⟩
        rw [HDI.out]
        go_wp2_with fail
        go_roundw
        case rel => exact ⟨p + 1, 10 * n + (c - 48), by omega, by go_num, hb, HV2, Lib.hid rfl⟩
        case measure => simp; omega
      · obtain rfl : p = s.size := by omega
        have hnx : ∀ ty, (Instr.next (.pointer (some ⟨w.heap.size, 0, none⟩)) true ty).run Try.prog (w.iter s s.size) = _ := fun ty => run_next_end (P := Try.prog) w s s.size ty (by omega)
        have HB : Hid (Below w.heap.size w (w.iter s s.size)) := Lib.hid (alloc_below w _)
        go_wp2_with fail
        go_ret2
        refine ⟨?_, HB.out⟩
        rw [hv.out, List.take_of_length_le (by simp)]
        rfl
  · have hq : (s.toList == [48]) = true := by
      rcases hz with h | h
      · rw [h]; rfl
      · exact absurd h hz1
    clear hz
    go_enter Try.func74, Try.ntmps74
    go_wp2_with fail
    all_goals
      go_loopw [4] (fun nv wr => ∃ (p n : Nat), p ≤ s.size ∧ nv = .int .i64 n ∧ n < 10000 ∧ Hid (n = valD (s.data.toList.take p) 0) ∧ Hid (ItW w s p wr)) (fun _ wr => s.size - wr.iterPos w.heap.size)
      case atStart => exact ⟨0, 0, by omega, rfl, by omega, Lib.hid (by simp [valD]), Lib.hid rfl⟩
      case round =>
        obtain ⟨p, n, hp, rfl, hn, hv, hw⟩ := hrel
        have hw' := hw.out
        unfold ItW at hw'
        subst hw'
        clear hw
        by_cases hlt : p < s.size
        · have hc := hd p hlt
          have hnx : ∀ ty, (Instr.next (.pointer (some ⟨w.heap.size, 0, none⟩)) true ty).run Try.prog (w.iter s p) = _ := fun ty => run_next_ascii (P := Try.prog) w s p ty hlt (by omega)
          have hv2 : 10 * n + ((s[p]'hlt).toNat - 48) = valD (s.data.toList.take (p + 1)) 0 := by
            rw [take_next hlt, valD_app, ← hv.out]
            rfl
          have hb : 10 * n + ((s[p]'hlt).toNat - 48) < 10000 := by
            rw [hv2]
            exact valD_lt (fun c hcm => by
              obtain ⟨i, hi, rfl⟩ := List.getElem_of_mem (List.mem_of_mem_take hcm)
              exact hd i (by simpa using hi)) (by rw [List.length_take]; omega)
          have HV2 := Lib.hid hv2
          generalize (s[p]'hlt).toNat = c at hnx hc hb HV2
          have hcI : (0 : Int) ≤ (c : Int) ∧ (c : Int) < 128 := by omega
          have hdI : decide ((48 : Int) ≤ (c : Int) ∧ (c : Int) ≤ 57) = true := by simp; omega
          have HDI := Lib.hid hdI
          clear hv hv2 hdI
          go_wp2_with fail
          refine (digit_any _ (c : Int) hcI).mono ?_
          rintro e w' ⟨rfl, rfl⟩
          rw [HDI.out]
          go_wp2_with fail
          go_roundw
          case rel => exact ⟨p + 1, 10 * n + (c - 48), by omega, by go_num, hb, HV2, Lib.hid rfl⟩
          case measure => simp; omega
        · obtain rfl : p = s.size := by omega
          have hnx : ∀ ty, (Instr.next (.pointer (some ⟨w.heap.size, 0, none⟩)) true ty).run Try.prog (w.iter s s.size) = _ := fun ty => run_next_end (P := Try.prog) w s s.size ty (by omega)
          have HB : Hid (Below w.heap.size w (w.iter s s.size)) := Lib.hid (alloc_below w _)
          go_wp2_with fail
          go_ret2
          refine ⟨?_, HB.out⟩
          rw [hv.out, List.take_of_length_le (by simp)]
          rfl
end

section
open Go.RowKit
set_option maxRecDepth 100000
theorem number_long (w : World) (s : ByteArray) (hs : 4 < s.size) : Calls Try.prog 74 #[.string s] w (RetB w (.tuple #[.int .i64 0, .bool false])) := by
  have hne := not_empty (show 0 < s.size by omega)
  have hsI : (4 : Int) < (s.size : Int) := by omega
  go_enter Try.func74, Try.ntmps74
  go_wp2_with fail
  go_ret2
  exact ⟨rfl, Below.refl _ _⟩
theorem number_minus (w : World) (s : ByteArray) (h0 : 0 < s.size) (hs : s.size ≤ 4) (hc : (s[0]'h0).toNat = 45) : Calls Try.prog 74 #[.string s] w (RetB w (.tuple #[.int .i64 0, .bool false])) := by
  have hne := not_empty h0
  have hsI : ¬ (4 : Int) < (s.size : Int) := by omega
  have hq : (((s[0]'h0).toNat : Int) == 48) = false := by simp; omega
  go_enter Try.func74, Try.ntmps74
  go_wp2_with fail
  go_loopw [] (fun wr => Hid (ItW w s 0 wr)) (fun _ => 0)
  case atStart => exact Lib.hid rfl
  case round =>
    have hw := hrel.out
    unfold ItW at hw
    subst hw
    clear hrel
    have hnx : ∀ ty, (Instr.next (.pointer (some ⟨w.heap.size, 0, none⟩)) true ty).run Try.prog (w.iter s 0) = _ := fun ty => run_next_ascii (P := Try.prog) w s 0 ty h0 (by omega)
    have HB : Hid (Below w.heap.size w (w.iter s (0 + 1))) := Lib.hid (alloc_below w _)
    rw [hc] at hnx
    go_wp2_with fail
    refine (digit_any _ 45 (by omega)).mono ?_
    rintro e w' ⟨rfl, rfl⟩
    have hd : decide ((48 : Int) ≤ 45 ∧ (45 : Int) ≤ 57) = false := by decide
    rw [hd]
    go_wp2_with fail
    go_ret2
    exact ⟨rfl, HB.out⟩
theorem decDigits_dig : ∀ (n u : Nat), u < n → ∀ c ∈ Lib.decDigits u, 48 ≤ c.toNat ∧ c.toNat ≤ 57
  | 0, u, h => by omega
  | n + 1, u, h => fun c hc => by
    by_cases hu : u < 10
    · rw [Lib.decDigits_one hu] at hc
      have : c = UInt8.ofNat (48 + u) := by simpa using hc
      rw [this, UInt8.toNat_ofNat', Nat.mod_eq_of_lt (by omega)]; omega
    · rw [decDigits_big hu] at hc
      rcases List.mem_append.1 hc with hc | hc
      · exact decDigits_dig n (u / 10) (by omega) c hc
      · have : c = UInt8.ofNat (48 + u % 10) := by simpa using hc
        rw [this, UInt8.toNat_ofNat', Nat.mod_eq_of_lt (by omega)]; omega
theorem decDigits_head : ∀ (n u : Nat), u < n → 1 ≤ u → ∃ c r, Lib.decDigits u = c :: r ∧ 49 ≤ c.toNat
  | 0, u, h => by omega
  | n + 1, u, h => fun h1 => by
    by_cases hu : u < 10
    · refine ⟨_, [], Lib.decDigits_one hu, ?_⟩
      rw [UInt8.toNat_ofNat', Nat.mod_eq_of_lt (by omega)]; omega
    · obtain ⟨c, r, e, hc⟩ := decDigits_head n (u / 10) (by omega) (by omega)
      exact ⟨c, r ++ [UInt8.ofNat (48 + u % 10)], by rw [decDigits_big hu, e]; rfl, hc⟩
theorem decDigits_val : ∀ (n u : Nat), u < n → valD (Lib.decDigits u) 0 = u
  | 0, u, h => by omega
  | n + 1, u, h => by
    by_cases hu : u < 10
    · rw [Lib.decDigits_one hu]
      simp only [valD]
      rw [UInt8.toNat_ofNat', Nat.mod_eq_of_lt (by omega)]; omega
    · rw [decDigits_big hu, valD_app, decDigits_val n (u / 10) (by omega)]
      simp only [valD]
      rw [UInt8.toNat_ofNat', Nat.mod_eq_of_lt (by omega)]; omega
theorem decDigits_len : ∀ (n u : Nat), u < n → ((Lib.decDigits u).length ≤ 4 ↔ u < 10000) ∧ 1 ≤ (Lib.decDigits u).length ∧ ((Lib.decDigits u).length ≤ 3 ↔ u < 1000) ∧ ((Lib.decDigits u).length ≤ 2 ↔ u < 100) ∧ ((Lib.decDigits u).length ≤ 1 ↔ u < 10)
  | 0, u, h => by omega
  | n + 1, u, h => by
    by_cases hu : u < 10
    · rw [Lib.decDigits_one hu]
      simp; omega
    · have ih := decDigits_len n (u / 10) (by omega)
      rw [decDigits_big hu, List.length_append]
      simp only [List.length_cons, List.length_nil]
      omega
theorem list_size (l : List UInt8) : (⟨l.toArray⟩ : ByteArray).size = l.length := by
  show l.toArray.size = _
  simp
theorem list_get {l : List UInt8} {i : Nat} (h : i < (⟨l.toArray⟩ : ByteArray).size) : (⟨l.toArray⟩ : ByteArray)[i]'h = l[i]'(by rw [list_size] at h; exact h) := by
  show l.toArray[i]'_ = _
  simp
/-- What 'number' says of a number's digits. -/
theorem number_itoa (n : Int) (hn : -9223372036854775808 ≤ n ∧ n ≤ 9223372036854775807) : ∃ (v : Int) (b : Bool), (∀ w, Calls Try.prog 74 #[.string ⟨(Lib.itoa n).toArray⟩] w (RetB w (.tuple #[.int .i64 v, .bool b]))) ∧ (b = true → v = n ∧ 0 ≤ n) ∧ (b = false → ¬ (1 ≤ n ∧ n ≤ 64)) := by
  by_cases h0 : n < 0
  · have hi : Lib.itoa n = 45 :: Lib.decDigits n.natAbs := by unfold Lib.itoa; rw [if_pos h0]
    refine ⟨0, false, fun w => ?_, by simp, fun _ => by omega⟩
    rw [hi]
    by_cases hl : 4 < (⟨(45 :: Lib.decDigits n.natAbs).toArray⟩ : ByteArray).size
    · exact number_long w _ hl
    · exact number_minus w _ (by rw [list_size]; simp) (by omega) (by rw [list_get]; rfl)
  · have hi : Lib.itoa n = Lib.decDigits n.toNat := by unfold Lib.itoa; rw [if_neg h0]
    have hl := decDigits_len (n.toNat + 1) n.toNat (by omega)
    by_cases hb : n < 10000
    · refine ⟨n, true, fun w => ?_, fun _ => ⟨rfl, by omega⟩, by simp⟩
      have hv := decDigits_val (n.toNat + 1) n.toNat (by omega)
      have := number_dig w ⟨(Lib.decDigits n.toNat).toArray⟩ (by rw [list_size]; omega) (by rw [list_size]; omega) (fun i h => by
        rw [list_get]
        exact decDigits_dig (n.toNat + 1) n.toNat (by omega) _ (List.getElem_mem _)) (by
        by_cases hz : n = 0
        · left
          subst hz
          rw [ByteArray.toList_eq]
          simp [Lib.decDigits_one]
        · right
          obtain ⟨c, r, e, hc⟩ := decDigits_head (n.toNat + 1) n.toNat (by omega) (by omega)
          rw [list_get]
          simp only [e, List.getElem_cons_zero]
          exact hc)
      rw [hi]
      rw [show (⟨(Lib.decDigits n.toNat).toArray⟩ : ByteArray).data.toList = Lib.decDigits n.toNat from by simp, hv] at this
      rw [show ((n.toNat : Nat) : Int) = n from by omega] at this
      exact this
    · refine ⟨0, false, fun w => ?_, by simp, fun _ => by omega⟩
      rw [hi]
      exact number_long w _ (by rw [list_size]; omega)
/-- A number's digits are a use just where it is 1 to 64. -/
theorem use_any (n : Int) (hn : -9223372036854775808 ≤ n ∧ n ≤ 9223372036854775807) (w : World) : Calls Try.prog 40 #[.string ⟨(Lib.itoa n).toArray⟩] w (RetB w (.bool (decide (1 ≤ n ∧ n ≤ 64)))) := by
  have hlen := Lib.itoa_length_le n hn.1 hn.2
  have hh : ∃ c r, Lib.itoa n = c :: r ∧ c.toNat < 65 := by
    unfold Lib.itoa
    by_cases h0 : n < 0
    · rw [if_pos h0]; exact ⟨_, _, rfl, by decide⟩
    · rw [if_neg h0]
      by_cases hz : n = 0
      · subst hz; exact ⟨48, [], by simp [Lib.decDigits_one], by decide⟩
      · obtain ⟨c, r, e, hc⟩ := decDigits_head (n.toNat + 1) n.toNat (by omega) (by omega)
        have := decDigits_dig (n.toNat + 1) n.toNat (by omega) c (by rw [e]; simp)
        exact ⟨c, r, e, by omega⟩
  obtain ⟨c, r, e, hc⟩ := hh
  have hN := name_no w ⟨(Lib.itoa n).toArray⟩ (by rw [list_size, e]; simp) (by rw [list_size]; omega) (by rw [list_get]; simp only [e, List.getElem_cons_zero]; exact hc)
  obtain ⟨v, b, hC, hb1, hb2⟩ := number_itoa n hn
  have HN := Lib.hid hN
  have HC := Lib.hid hC
  clear hN hC hlen e hc
  generalize (⟨(Lib.itoa n).toArray⟩ : ByteArray) = s at HN HC ⊢
  obtain ⟨d, hd⟩ : ∃ d, d = decide (1 ≤ n ∧ n ≤ 64) := ⟨_, rfl⟩
  rw [← hd]
  go_enter Try.func40, Try.ntmps40
  go_wp2_with fail
  refine HN.out.mono ?_
  rintro e w1 ⟨rfl, hB1⟩
  have HB1 := Lib.hid hB1
  clear hB1
  go_wp2_with fail
  refine (HC.out w1).mono ?_
  rintro e w2 ⟨rfl, hB2⟩
  have HB2 := Lib.hid (below_step HB1.out hB2)
  clear hB2
  cases b
  · have hdf : d = false := by rw [hd]; simpa using hb2 rfl
    have HD := Lib.hid hdf
    clear hdf hd hb1 hb2
    go_wp2_with fail
    go_ret
    exact ⟨by rw [HD.out]; rfl, HB2.out⟩
  · obtain ⟨rfl, hn0⟩ := hb1 rfl
    by_cases h1 : 1 ≤ v
    · by_cases h2 : v ≤ 64
      · have hdf : d = true := by rw [hd]; simp [h1, h2]
        have HD := Lib.hid hdf
        clear hdf hd hb1 hb2
        go_wp2_with fail
        go_ret
        exact ⟨by rw [HD.out]; rfl, HB2.out⟩
      · have hdf : d = false := by rw [hd]; simp [h2]
        have HD := Lib.hid hdf
        have hdv : decide (v ≤ 64) = false := by simp [h2]
        have HDV := Lib.hid hdv
        clear hdf hd hb1 hb2 hdv
        go_wp2_with fail
        go_ret
        exact ⟨by rw [HD.out]; show Ending.returned (.bool (decide (v ≤ 64))) = _; rw [HDV.out], HB2.out⟩
    · have hdf : d = false := by rw [hd]; simp [h1]
      have HD := Lib.hid hdf
      clear hdf hd hb1 hb2
      go_wp2_with fail
      go_ret
      exact ⟨by rw [HD.out]; rfl, HB2.out⟩
end
end Go.Proofs.Ytlpgfdhihimjaaa
