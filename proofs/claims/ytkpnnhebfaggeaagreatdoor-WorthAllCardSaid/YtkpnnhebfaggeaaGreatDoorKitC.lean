/-
  Read is the inverse of write; the document's numbers: pure, and walks by the kit.
  Conditions: none.
-/
import Derived.Test.YtkpnnhebfaggeaaGreatDoorKitB
import Derived.Maps.AppendAt
import Derived.Recover
import Derived.RegionTactic
import Derived.Deep.RegionHeld3
import Derived.SizedLaws
import Derived.ChangeArms
import Derived.OpenShut
namespace Go.Proofs.YtkpnnhebfaggeaaGreatDoor
set_option linter.unusedVariables false
set_option linter.unusedSimpArgs false
section
open Go.RowKit
set_option maxRecDepth 100000
def RdVal (r : Nat) (s : ByteArray) (k : Nat) : Prop := ∀ (a z deep : Nat) (w : World), RD r s a z w → a ≤ s.size → z ≤ a → 3 * (s.size - a) + 3 ≤ k → deep ≤ 64 → Tabs w → 5 ≤ w.heap.size →
  Calls Tryz.prog 32 #[.pointer (some ⟨r, 0, none⟩), .int .i64 deep] w (ValQ r s w (valR s k a z deep))
def RdList (r : Nat) (s : ByteArray) (k : Nat) : Prop := ∀ (a z deep : Nat) (w : World), RD r s a z w → a < s.size → z ≤ a + 1 → 3 * (s.size - a) + 2 ≤ k → deep ≤ 64 → Tabs w → 5 ≤ w.heap.size →
  Calls Tryz.prog 52 #[.pointer (some ⟨r, 0, none⟩), .int .i64 deep] w (ValQ r s w (listR s k a z deep))
set_option maxHeartbeats 4000000 in
theorem rval_step (r : Nat) (s : ByteArray) (k : Nat) (hs : s.size ≤ 1048576) (hr : 5 ≤ r) (ihl : RdList r s k) : RdVal r s (k + 1) := by
  intro a z deep w h ha hz hk hd ht h5
  have H := Lib.hid h
  have HT := Lib.hid ht
  have HL := Lib.hid ihl
  obtain ⟨c0, c1, c2, f1, f2⟩ := h.cells
  clear h ht ihl
  have HR1 := Lib.hid (H.out.to2 (z + 1))
  have HK1 := Lib.hid (KB.set (r := r) (w := w) 2 (.int .i64 (z + 1 : Nat)))
  by_cases hend : a = s.size
  · have he : valR s (k + 1) a z deep = numR s a (z + 1) := by rw [valR, at_none hend]
    have HE := Lib.hid he
    have HE1 : Hid (RD r s s.size (z + 1) (w.setCell ⟨r, 2, none⟩ (.int .i64 (z + 1 : Nat)))) := by rw [← hend]; exact HR1
    clear he
    have HEN := Lib.hid hend
    clear hend
    go_enter Tryz.func32, Tryz.ntmps32
    go_wp2_with fail
    refine (next_end r s (z + 1) _ HE1.out hs).mono ?_
    rintro e w1 ⟨rfl, m, rfl⟩
    have HK2 := Lib.hid (HK1.out.trans (KB.drewN m))
    go_wp2_with fail
    refine (number_any r s a (z + 1) _ (HR1.out.drewN m) ha hs (HT.out.below (HK2.out.below hr h5) (Nat.le_refl 5)) (Nat.le_trans h5 HK2.out.size) hr).mono ?_
    cases hn : numR s a (z + 1) with
    | error pc =>
      obtain ⟨p, c⟩ := pc
      intro e w2 hq
      obtain ⟨he, hk2⟩ : ValP r s _ (.error (p, c)) e w2 := hq
      cases he
      go_wp2_with fail
      refine ⟨rfl, ?_⟩
      show ValP _ _ _ _ _ _
      rw [HE.out, hn]
      exact ⟨rfl, HK2.out.trans hk2⟩
    | ok taz =>
      obtain ⟨t, a', z'⟩ := taz
      intro e w2 hq
      obtain ⟨v, bs, rfl, hv, hnd, hge, hrd, hk2⟩ : ValP r s _ (.ok (t, a', z')) e w2 := hq
      have HV := Lib.hid hv
      have HG := Lib.hid hge
      have HND := Lib.hid hnd
      have HN := Lib.hid hn
      clear hv hge hnd hn
      go_wp2_with fail
      go_ret
      show ValP _ _ _ _ _ _
      rw [HE.out, HN.out]
      exact ⟨v, bs, rfl, HV.out, HND.out, fun g hg => Nat.le_trans HK2.out.size (HG.out g hg), hrd, HK2.out.trans hk2⟩
  · have hlt : a < s.size := by omega
    have HRN : ∀ m, RD r s a (z + 1) ((w.setCell ⟨r, 2, none⟩ (.int .i64 (z + 1 : Nat))).drewN m) := fun m => HR1.out.drewN m
    have HKN : ∀ m, KB r w ((w.setCell ⟨r, 2, none⟩ (.int .i64 (z + 1 : Nat))).drewN m) := fun m => HK1.out.trans (KB.drewN m)
    have HRN := Lib.hid HRN
    have HKN := Lib.hid HKN
    by_cases h117 : s[a].toNat = 117
    · have b117 : ((s[a].toNat : Int) == 117) = true := by rw [h117]; rfl
      have he : valR s (k + 1) a z deep = wordV .unit (z + 1) (wordR s.data.toList [117, 110, 105, 116] a) := by rw [valR, at_some hlt]; simp only; rw [if_pos h117]
      have HE := Lib.hid he
      clear he
      have HB := Lib.hid h117
      clear h117
      go_enter Tryz.func32, Tryz.ntmps32
      go_wp2_with fail
      refine (next_byte r s a (z + 1) _ HR1.out hs hlt).mono ?_
      rintro e w1 ⟨rfl, m, rfl⟩
      go_wp2_with fail
      refine (word_any r s a (z + 1) _ _ (HRN.out m) ha hs (by decide)).mono ?_
      cases hn : wordR s.data.toList [117, 110, 105, 116] a with
      | error p =>
        intro e w2 hq
        obtain ⟨he, hk2⟩ : WordP r s (z + 1) _ (.error p) e w2 := hq
        cases he
        go_wp2_with fail
        refine ⟨rfl, ?_⟩
        show ValP _ _ _ _ _ _
        rw [HE.out, hn]
        exact ⟨rfl, (HKN.out m).trans hk2⟩
      | ok a' =>
        intro e w2 hq
        obtain ⟨rfl, hrd, hk2⟩ : WordP r s (z + 1) _ (.ok a') e w2 := hq
        have HNN := Lib.hid hn
        have HRD := Lib.hid hrd
        clear hn hrd
        go_wp2_with fail
        go_ret
        show ValP _ _ _ _ _ _
        rw [HE.out, HNN.out]
        exact ⟨_, [], rfl, ⟨rfl, rfl⟩, by simp, by simp, HRD.out, (HKN.out m).trans hk2⟩
    · skip
      by_cases h121 : s[a].toNat = 121
      · have b121 : ((s[a].toNat : Int) == 121) = true := by rw [h121]; rfl
        have b117 : ((s[a].toNat : Int) == 117) = false := by simp only [beq_eq_false_iff_ne, ne_eq]; omega
        have he : valR s (k + 1) a z deep = wordV (.truth true) (z + 1) (wordR s.data.toList [121, 101, 115] a) := by rw [valR, at_some hlt]; simp only; rw [if_neg h117, if_pos h121]
        have HE := Lib.hid he
        clear he
        have HB := Lib.hid h121
        clear h117 h121
        go_enter Tryz.func32, Tryz.ntmps32
        go_wp2_with fail
        refine (next_byte r s a (z + 1) _ HR1.out hs hlt).mono ?_
        rintro e w1 ⟨rfl, m, rfl⟩
        go_wp2_with fail
        refine (word_any r s a (z + 1) _ _ (HRN.out m) ha hs (by decide)).mono ?_
        cases hn : wordR s.data.toList [121, 101, 115] a with
        | error p =>
          intro e w2 hq
          obtain ⟨he, hk2⟩ : WordP r s (z + 1) _ (.error p) e w2 := hq
          cases he
          go_wp2_with fail
          refine ⟨rfl, ?_⟩
          show ValP _ _ _ _ _ _
          rw [HE.out, hn]
          exact ⟨rfl, (HKN.out m).trans hk2⟩
        | ok a' =>
          intro e w2 hq
          obtain ⟨rfl, hrd, hk2⟩ : WordP r s (z + 1) _ (.ok a') e w2 := hq
          have HNN := Lib.hid hn
          have HRD := Lib.hid hrd
          clear hn hrd
          go_wp2_with fail
          go_ret
          show ValP _ _ _ _ _ _
          rw [HE.out, HNN.out]
          exact ⟨_, [], rfl, ⟨rfl, rfl⟩, by simp, by simp, HRD.out, (HKN.out m).trans hk2⟩
      · skip
        by_cases h110 : s[a].toNat = 110
        · have b110 : ((s[a].toNat : Int) == 110) = true := by rw [h110]; rfl
          have b117 : ((s[a].toNat : Int) == 117) = false := by simp only [beq_eq_false_iff_ne, ne_eq]; omega
          have b121 : ((s[a].toNat : Int) == 121) = false := by simp only [beq_eq_false_iff_ne, ne_eq]; omega
          have he : valR s (k + 1) a z deep = wordV (.truth false) (z + 1) (wordR s.data.toList [110, 111] a) := by rw [valR, at_some hlt]; simp only; rw [if_neg h117, if_neg h121, if_pos h110]
          have HE := Lib.hid he
          clear he
          have HB := Lib.hid h110
          clear h117 h121 h110
          go_enter Tryz.func32, Tryz.ntmps32
          go_wp2_with fail
          refine (next_byte r s a (z + 1) _ HR1.out hs hlt).mono ?_
          rintro e w1 ⟨rfl, m, rfl⟩
          go_wp2_with fail
          refine (word_any r s a (z + 1) _ _ (HRN.out m) ha hs (by decide)).mono ?_
          cases hn : wordR s.data.toList [110, 111] a with
          | error p =>
            intro e w2 hq
            obtain ⟨he, hk2⟩ : WordP r s (z + 1) _ (.error p) e w2 := hq
            cases he
            go_wp2_with fail
            refine ⟨rfl, ?_⟩
            show ValP _ _ _ _ _ _
            rw [HE.out, hn]
            exact ⟨rfl, (HKN.out m).trans hk2⟩
          | ok a' =>
            intro e w2 hq
            obtain ⟨rfl, hrd, hk2⟩ : WordP r s (z + 1) _ (.ok a') e w2 := hq
            have HNN := Lib.hid hn
            have HRD := Lib.hid hrd
            clear hn hrd
            go_wp2_with fail
            go_ret
            show ValP _ _ _ _ _ _
            rw [HE.out, HNN.out]
            exact ⟨_, [], rfl, ⟨rfl, rfl⟩, by simp, by simp, HRD.out, (HKN.out m).trans hk2⟩
        · skip
          by_cases h34 : s[a].toNat = 34
          · have b34 : ((s[a].toNat : Int) == 34) = true := by rw [h34]; rfl
            have b117 : ((s[a].toNat : Int) == 117) = false := by simp only [beq_eq_false_iff_ne, ne_eq]; omega
            have b121 : ((s[a].toNat : Int) == 121) = false := by simp only [beq_eq_false_iff_ne, ne_eq]; omega
            have b110 : ((s[a].toNat : Int) == 110) = false := by simp only [beq_eq_false_iff_ne, ne_eq]; omega
            have he : valR s (k + 1) a z deep = textV (z + 1) (textF s.data.toList (s.size + 1) (a + 1) []) := by rw [valR, at_some hlt]; simp only; rw [if_neg h117, if_neg h121, if_neg h110, if_pos h34]
            have HE := Lib.hid he
            clear he
            have HB := Lib.hid h34
            clear h117 h121 h110 h34
            go_enter Tryz.func32, Tryz.ntmps32
            go_wp2_with fail
            refine (next_byte r s a (z + 1) _ HR1.out hs hlt).mono ?_
            rintro e w1 ⟨rfl, m, rfl⟩
            go_wp2_with fail
            refine (rtext_any r s a (z + 1) _ (HRN.out m) hlt hs (by omega)).mono ?_
            cases hn : textV (z + 1) (textF s.data.toList (s.size + 1) (a + 1) []) with
            | error pc =>
              obtain ⟨p, c⟩ := pc
              intro e w2 hq
              obtain ⟨he, hk2⟩ : ValP r s _ (.error (p, c)) e w2 := hq
              cases he
              go_wp2_with fail
              refine ⟨rfl, ?_⟩
              show ValP _ _ _ _ _ _
              rw [HE.out, hn]
              exact ⟨rfl, (HKN.out m).trans hk2⟩
            | ok taz =>
              obtain ⟨t, a', z'⟩ := taz
              intro e w2 hq
              obtain ⟨v, bs, rfl, hv, hnd, hge, hrd, hk2⟩ : ValP r s _ (.ok (t, a', z')) e w2 := hq
              have HV := Lib.hid hv
              have HG := Lib.hid hge
              have HND := Lib.hid hnd
              have HNN := Lib.hid hn
              clear hv hge hnd hn
              go_wp2_with fail
              go_ret
              show ValP _ _ _ _ _ _
              rw [HE.out, HNN.out]
              exact ⟨v, bs, rfl, HV.out, HND.out, fun g hg => Nat.le_trans (HKN.out m).size (HG.out g hg), hrd, (HKN.out m).trans hk2⟩
          · skip
            by_cases h91 : s[a].toNat = 91
            · have b91 : ((s[a].toNat : Int) == 91) = true := by rw [h91]; rfl
              have b117 : ((s[a].toNat : Int) == 117) = false := by simp only [beq_eq_false_iff_ne, ne_eq]; omega
              have b121 : ((s[a].toNat : Int) == 121) = false := by simp only [beq_eq_false_iff_ne, ne_eq]; omega
              have b110 : ((s[a].toNat : Int) == 110) = false := by simp only [beq_eq_false_iff_ne, ne_eq]; omega
              have b34 : ((s[a].toNat : Int) == 34) = false := by simp only [beq_eq_false_iff_ne, ne_eq]; omega
              have he : valR s (k + 1) a z deep = listR s k a (z + 1) deep := by rw [valR, at_some hlt]; simp only; rw [if_neg h117, if_neg h121, if_neg h110, if_neg h34, if_pos h91]
              have HE := Lib.hid he
              clear he
              have HB := Lib.hid h91
              clear h117 h121 h110 h34 h91
              go_enter Tryz.func32, Tryz.ntmps32
              go_wp2_with fail
              refine (next_byte r s a (z + 1) _ HR1.out hs hlt).mono ?_
              rintro e w1 ⟨rfl, m, rfl⟩
              go_wp2_with fail
              refine (HL.out a (z + 1) deep _ (HRN.out m) hlt (by omega) (by omega) hd (HT.out.below ((HKN.out m).below hr h5) (Nat.le_refl 5)) (Nat.le_trans h5 (HKN.out m).size)).mono ?_
              cases hn : listR s k a (z + 1) deep with
              | error pc =>
                obtain ⟨p, c⟩ := pc
                intro e w2 hq
                obtain ⟨he, hk2⟩ : ValP r s _ (.error (p, c)) e w2 := hq
                cases he
                go_wp2_with fail
                refine ⟨rfl, ?_⟩
                show ValP _ _ _ _ _ _
                rw [HE.out, hn]
                exact ⟨rfl, (HKN.out m).trans hk2⟩
              | ok taz =>
                obtain ⟨t, a', z'⟩ := taz
                intro e w2 hq
                obtain ⟨v, bs, rfl, hv, hnd, hge, hrd, hk2⟩ : ValP r s _ (.ok (t, a', z')) e w2 := hq
                have HV := Lib.hid hv
                have HG := Lib.hid hge
                have HND := Lib.hid hnd
                have HNN := Lib.hid hn
                clear hv hge hnd hn
                go_wp2_with fail
                go_ret
                show ValP _ _ _ _ _ _
                rw [HE.out, HNN.out]
                exact ⟨v, bs, rfl, HV.out, HND.out, fun g hg => Nat.le_trans (HKN.out m).size (HG.out g hg), hrd, (HKN.out m).trans hk2⟩
            · skip
              have b117 : ((s[a].toNat : Int) == 117) = false := by simp only [beq_eq_false_iff_ne, ne_eq]; omega
              have b121 : ((s[a].toNat : Int) == 121) = false := by simp only [beq_eq_false_iff_ne, ne_eq]; omega
              have b110 : ((s[a].toNat : Int) == 110) = false := by simp only [beq_eq_false_iff_ne, ne_eq]; omega
              have b34 : ((s[a].toNat : Int) == 34) = false := by simp only [beq_eq_false_iff_ne, ne_eq]; omega
              have b91 : ((s[a].toNat : Int) == 91) = false := by simp only [beq_eq_false_iff_ne, ne_eq]; omega
              have he : valR s (k + 1) a z deep = numR s a (z + 1) := by rw [valR, at_some hlt]; simp only; rw [if_neg h117, if_neg h121, if_neg h110, if_neg h34, if_neg h91]
              have HE := Lib.hid he
              clear he
              clear h117 h121 h110 h34 h91
              go_enter Tryz.func32, Tryz.ntmps32
              go_wp2_with fail
              refine (next_byte r s a (z + 1) _ HR1.out hs hlt).mono ?_
              rintro e w1 ⟨rfl, m, rfl⟩
              go_wp2_with fail
              refine (number_any r s a (z + 1) _ (HRN.out m) ha hs (HT.out.below ((HKN.out m).below hr h5) (Nat.le_refl 5)) (Nat.le_trans h5 (HKN.out m).size) hr).mono ?_
              cases hn : numR s a (z + 1) with
              | error pc =>
                obtain ⟨p, c⟩ := pc
                intro e w2 hq
                obtain ⟨he, hk2⟩ : ValP r s _ (.error (p, c)) e w2 := hq
                cases he
                go_wp2_with fail
                refine ⟨rfl, ?_⟩
                show ValP _ _ _ _ _ _
                rw [HE.out, hn]
                exact ⟨rfl, (HKN.out m).trans hk2⟩
              | ok taz =>
                obtain ⟨t, a', z'⟩ := taz
                intro e w2 hq
                obtain ⟨v, bs, rfl, hv, hnd, hge, hrd, hk2⟩ : ValP r s _ (.ok (t, a', z')) e w2 := hq
                have HV := Lib.hid hv
                have HG := Lib.hid hge
                have HND := Lib.hid hnd
                have HNN := Lib.hid hn
                clear hv hge hnd hn
                go_wp2_with fail
                go_ret
                show ValP _ _ _ _ _ _
                rw [HE.out, HNN.out]
                exact ⟨v, bs, rfl, HV.out, HND.out, fun g hg => Nat.le_trans (HKN.out m).size (HG.out g hg), hrd, (HKN.out m).trans hk2⟩
end

section
open Go.RowKit
set_option maxRecDepth 100000
theorem RD.old {r : Nat} {s : ByteArray} {a z : Nat} {w w' : World} (h : RD r s a z w) (hb : w'.heap[r]? = w.heap[r]?) : RD r s a z w' := by unfold RD at *; rw [hb]; exact h
set_option maxHeartbeats 8000000 in
theorem rlist_step (r : Nat) (s : ByteArray) (k : Nat) (hs : s.size ≤ 1048576) (hr : 5 ≤ r) (ih : ∀ j, j < k → RdVal r s j) : RdList r s k := by
  intro a z deep w h ha hz hk hd ht h5
  obtain ⟨k, rfl⟩ : ∃ j, k = j + 1 := ⟨k - 1, by omega⟩
  have H := Lib.hid h
  have HT := Lib.hid ht
  have HI := Lib.hid ih
  obtain ⟨c0, c1, c2, f1, f2⟩ := h.cells
  clear h ht ih
  by_cases h64 : deep = 64
  · have he : listR s (k + 1) a z deep = .error (a, 2) := by rw [listR, if_pos h64]
    have HE := Lib.hid he
    have b64 : ((deep : Int) == 64) = true := by rw [h64]; rfl
    have H64 := Lib.hid h64
    clear he h64
    go_enter Tryz.func52, Tryz.ntmps52
    go_wp2_with fail
    refine (wrong_any r _ _ _).mono ?_
    rintro e w1 ⟨he, rfl⟩
    cases he
    go_wp2_with fail
    refine ⟨rfl, ?_⟩
    show ValP _ _ _ _ _ _
    rw [HE.out]
    exact ⟨rfl, KB.refl _ _⟩
  · have b64 : ((deep : Int) == 64) = false := by simp only [beq_eq_false_iff_ne, ne_eq]; omega
    have hd' : (deep : Int) < 64 := by omega
    have HR1 := Lib.hid (H.out.to1 (a + 1))
    have HK1 := Lib.hid (KB.set (r := r) (w := w) 1 (.int .i64 (a + 1 : Nat)))
    obtain ⟨N, hN⟩ : ∃ N, N = w.heap.size := ⟨_, rfl⟩
    have HN := Lib.hid hN
    clear hN
    obtain ⟨i0, hi, hz0, hz1, hz2⟩ := info_parts info30
    have HI0 := Lib.hid hi
    have HZ0 := Lib.hid hz0
    have HZ1 := Lib.hid hz1
    have HZ2 := Lib.hid hz2
    clear hi hz0 hz1 hz2
    have hrow : ((w.setCell ⟨r, 1, none⟩ (.int .i64 (a + 1 : Nat))).alloc (.cells #[] 32)).ownsRow N 32 1 (.slice (some ⟨w.heap.size, 0, none⟩) 0 0) 0 [] := by
      have e1 : (w.setCell ⟨r, 1, none⟩ (.int .i64 (a + 1 : Nat))).heap.size = w.heap.size := by simp [World.setCell]
      have := World.ownsRow_made (base := N) (size := 1) (e := 32) (w.setCell ⟨r, 1, none⟩ (.int .i64 (a + 1 : Nat))) #[] 0 (by rw [e1, HN.out]; exact Nat.le_refl _) (by unfold maxLen; omega) rfl
      rwa [e1] at this
    have HRW := Lib.hid hrow
    have hrd0 : RD r s (a + 1) z ((w.setCell ⟨r, 1, none⟩ (.int .i64 (a + 1 : Nat))).alloc (.cells #[] 32)) := HR1.out.old (Below.heap_alloc _ _ _ HR1.out.lt)
    have HRD0 := Lib.hid hrd0
    have HK0 := Lib.hid (HK1.out.trans (KB.of_below (alloc_below' _ (.cells #[] 32))))
    clear hrow hrd0
    by_cases hend : a + 1 = s.size
    · have he : listR s (k + 1) a z deep = elemsR s k (a + 1) z deep [] := by rw [listR, if_neg h64, if_neg (by rw [at_none hend]; simp)]
      have HE := Lib.hid he
      have HRE0 : Hid (RD r s s.size z ((w.setCell ⟨r, 1, none⟩ (.int .i64 (a + 1 : Nat))).alloc (.cells #[] 32))) := by rw [← hend]; exact HRD0
      have HEN := Lib.hid hend
      clear he hend
      have ha1 : a + 1 ≤ s.size := by omega
      go_enter Tryz.func52, Tryz.ntmps52
      go_wp2_with fail
      refine (next_end r s z _ HRE0.out hs).mono ?_
      rintro e w1 ⟨rfl, m, rfl⟩
      go_wp2_with fail
      go_loopw [5] (fun u wr => ∃ (q p y : Nat) (acc : List VT) (lv : Value) (vs : List Value) (bs : List Nat), lv = u ∧ q ≤ k ∧ p ≤ s.size ∧ y ≤ p ∧ acc.length ≤ p ∧ 3 * (s.size - p) + 4 ≤ q ∧ Hid (wr.ownsRow N 32 1 lv acc.length vs) ∧ Hid (RepVs wr acc vs bs) ∧ Hid (∀ g, lv.ownBlock = some g → g ∉ bs) ∧ Hid bs.Nodup ∧ Hid (∀ g ∈ bs, N ≤ g) ∧
          Hid (RD r s p y wr) ∧ Hid (KB r w wr) ∧ Hid (elemsR s q p y deep acc = elemsR s k (a + 1) z deep [])) (fun _ wr => s.size + 1 - rdAt r wr)
      case atStart => exact ⟨k, a + 1, z, [], _, [], [], rfl, by omega, by omega, by omega, by simp, by omega, HRW, Lib.hid ⟨rfl, rfl⟩, Lib.hid (by simp), Lib.hid (by simp), Lib.hid (by simp), Lib.hid (HRD0.out.drewN m), Lib.hid (HK0.out.trans (KB.drewN m)), Lib.hid rfl⟩
      case round =>
        obtain ⟨q, p, y, acc, lv, vs, bs, rfl, hqk, hp, hy, hacc, hq, hown, hrep, hdis, hnd, hge, hrd, hkb, heq⟩ := hrel
        obtain ⟨q, rfl⟩ : ∃ j, q = j + 1 := ⟨q - 1, by omega⟩
        have hdI : (deep : Int) + 1 = ((deep + 1 : Nat) : Int) := by omega
        have HDI := Lib.hid hdI
        clear hdI
        go_wp2_with fail
        rw [show (Value.int IntKind.i64 ((deep : Int) + 1)) = .int .i64 ((deep + 1 : Nat) : Int) from by rw [HDI.out]]
        refine (HI.out q (by omega) p y (deep + 1) wr hrd.out hp hy (by omega) (by omega) (HT.out.below (hkb.out.below hr h5) (Nat.le_refl 5)) (Nat.le_trans h5 hkb.out.size)).mono ?_
        cases hv : valR s q p y (deep + 1) with
        | error pc =>
          obtain ⟨p', c⟩ := pc
          intro e w2 hqq
          obtain ⟨he, hk2⟩ : ValP r s _ (.error (p', c)) e w2 := hqq
          have HV := Lib.hid hv
          clear hv
          cases he
          go_wp2_with fail
          refine ⟨rfl, ?_⟩
          show ValP _ _ _ _ _ _
          rw [HE.out, ← heq.out, elemsR, HV.out]
          exact ⟨rfl, hkb.out.trans hk2⟩
        | ok taz =>
          obtain ⟨t, p', y'⟩ := taz
          have hbd := valR_bd q p y (deep + 1) t p' y' hp hy hv
          have HV := Lib.hid hv
          clear hv
          obtain ⟨hb0, hb1, hb2⟩ := hbd
          intro e w2 hqq
          obtain ⟨v, cs, rfl, hrv, hnd2, hge2, hrd2, hk2⟩ : ValP r s _ (.ok (t, p', y')) e w2 := hqq
          obtain ⟨ty, tu, rfl⟩ := hrv.iface
          have hgr : ∀ g, lv.ownBlock = some g → N ≤ g ∧ g < wr.heap.size := fun g hg => hown.out.lt g hg
          have hrN : r < N := by have := H.out.lt; have := HN.out; omega
          have HO2 : Hid (w2.ownsRow N 32 1 lv acc.length vs) := ownsRow_keep hown.out (fun g hg => hk2.block g (hgr g hg).2 (by have := hgr g hg; simp; omega))
          have HP2 : Hid (RepVs w2 acc vs bs) := RepVs.keep _ _ _ (fun g hg => hk2.block g (RepVs.lt _ _ _ hrep.out g hg) (by have := hge.out g hg; simp; omega)) hrep.out
          have HV2 := Lib.hid hrv
          have HN2 := Lib.hid hnd2
          have HG2 := Lib.hid hge2
          have HR2 := Lib.hid hrd2
          have HK2 := Lib.hid (hkb.out.trans hk2)
          have HKW := Lib.hid hk2
          have HGR := Lib.hid hgr
          clear hrv hnd2 hge2 hrd2 hk2 hgr
          go_wp2_with (at_builtin; refine wpList_append_own_at _ rfl _ _ 46 rfl N 32 i0 .nilIface 1 16 Tryz.underlying46 HI0.out HZ0.out HZ1.out HZ2.out rfl (by decide) _ _ _ rfl (HO2.out.alloc _) ⟨w2.heap.size, 0, none⟩ 1 1 [.iface ty tu] rfl rfl ?c1 ?c2 ?c3 ?c4 ?c5 ?_)
          case c1 => exact one_new _ _ _
          case c2 => intro u hu; simp at hu; subst hu; rfl
          case c3 => unfold maxLen; omega
          case c4 => omega
          case c5 => have h1 := HN.out; have h2 := HK2.out.size; simp; omega
          intro lv' w3 hown' hgrow _ hblk
          have hs2 := HKW.out.size
          have hs3 := hgrow.size
          simp at hs3
          have hne : ∀ g, lv.ownBlock = some g → g ≠ r := fun g hg => by have := HGR.out g hg; omega
          have hold : ∀ g, g < w2.heap.size → lv.ownBlock ≠ some g → w3.heap[g]? = w2.heap[g]? := fun g hg hn => by
            rw [hgrow.block g (by simp; omega) (fun e => hn e.symm), Below.heap_alloc _ _ _ hg]
          have HR3 : Hid (RD r s p' y' w3) := HR2.out.old (hold r HR2.out.lt (fun e => hne r e rfl))
          have HK3 : Hid (KB r w w3) := by
            have h1 := HK2.out
            have h2 := HN.out
            refine ⟨hgrow.os.trans h1.os, hgrow.tape.trans h1.tape, hgrow.output.trans h1.output, by have := h1.size; omega, fun g hg hgr => ?_⟩
            rw [hold g (by have := h1.size; omega) (fun e => by have h3 := (HGR.out g e).1; omega)]
            exact h1.block g hg hgr
          have HO3 : Hid (w3.ownsRow N 32 1 lv' (acc ++ [t]).length (vs ++ [.iface ty tu])) := by
            show w3.ownsRow N 32 1 lv' (acc ++ [t]).length _
            simpa using hown'
          have HP3 : Hid (RepVs w3 (acc ++ [t]) (vs ++ [.iface ty tu]) (bs ++ cs)) :=
            RepVs.snoc _ _ _ _ _ _ (RepVs.keep _ _ _ (fun g hg => hold g (RepVs.lt _ _ _ HP2.out g hg) (fun e => hdis.out g e hg)) HP2.out)
              (RepV.keep _ _ _ (fun g hg => hold g (RepV.lt _ _ _ HV2.out g hg) (fun e => by have h3 := (HGR.out g e).2; have h4 := HG2.out g hg; omega)) HV2.out)
          have HD3 : Hid (∀ g, lv'.ownBlock = some g → g ∉ bs ++ cs) := by
            intro g hg hm
            rcases hblk with hb | hb
            · rw [hg] at hb
              rcases List.mem_append.1 hm with hm | hm
              · exact hdis.out g hb.symm hm
              · have h3 := (HGR.out g hb.symm).2
                have h4 := HG2.out g hm
                omega
            · rw [hg] at hb
              have hb : g = w2.heap.size + 1 := by simpa using hb
              rcases List.mem_append.1 hm with hm | hm
              · have := RepVs.lt _ _ _ HP2.out g hm; omega
              · have := RepV.lt _ _ _ HV2.out g hm; omega
          have HN3 : Hid (bs ++ cs).Nodup := List.nodup_append.2 ⟨hnd.out, HN2.out, fun x hx y hy e => by
            have h3 := RepVs.lt _ _ _ hrep.out x hx
            have h4 := HG2.out y hy
            omega⟩
          have HG3 : Hid (∀ g ∈ bs ++ cs, N ≤ g) := by
            intro g hg
            rcases List.mem_append.1 hg with hg | hg
            · exact hge.out g hg
            · have := HG2.out g hg; have := hkb.out.size; have := HN.out; omega
          clear hown' hgrow hblk hne hold hs3 hs2
          obtain ⟨d0, d1, d2, g1, g2⟩ := HR3.out.cells
          have hres : elemsR s (q + 1) p y deep acc = if s.data.toList[p']? = some 93 then .ok (.list (acc ++ [t]), p' + 1, y') else if s.data.toList[p']? = some 44 then (match wordR s.data.toList [44, 32] p' with
              | .error e => .error (e, 5)
              | .ok a'' => elemsR s q a'' y' deep (acc ++ [t])) else .error (p', 5) := by rw [elemsR, HV.out]; rfl
          rw [hres] at heq
          clear hres
          by_cases hend2 : p' = s.size
          · rw [at_none hend2, if_neg (by simp), if_neg (by simp)] at heq
            have HEN2 := Lib.hid hend2
            have HRE : Hid (RD r s s.size y' w3) := by rw [← hend2]; exact HR3
            clear hend2
            go_wp2_with fail
            refine (next_end r s y' _ HRE.out hs).mono ?_
            rintro e w4 ⟨rfl, m4, rfl⟩
            go_wp2_with fail
            refine (wrong_any r _ _ _).mono ?_
            rintro e w5 ⟨he, rfl⟩
            cases he
            go_wp2_with fail
            refine ⟨rfl, ?_⟩
            show ValP _ _ _ _ _ _
            rw [HE.out, ← heq.out]
            exact ⟨rfl, HK3.out.trans (KB.drewN m4)⟩
          · have hlt2 : p' < s.size := by omega
            rw [at_some hlt2] at heq
            by_cases h93 : s[p'].toNat = 93
            · have e93 : s[p'] = 93 := UInt8.toNat_inj.1 h93
              rw [if_pos (by rw [e93])] at heq
              have b93 : ((s[p'].toNat : Int) == 93) = true := by rw [h93]; rfl
              have H93 := Lib.hid h93
              have HE93 := Lib.hid e93
              clear h93 e93
              go_wp2_with fail
              refine (next_byte r s p' y' _ HR3.out hs hlt2).mono ?_
              rintro e w4 ⟨rfl, m4, rfl⟩
              go_wp2_with fail
              go_ret
              show ValP _ _ _ _ _ _
              rw [HE.out, ← heq.out]
              have hkeep : ∀ g, N ≤ g → ((w3.drewN m4).setCell ⟨r, 1, none⟩ (.int .i64 (p' + 1 : Nat))).heap[g]? = w3.heap[g]? := fun g hg => Below.heap_setCell _ _ _ _ (by simp; omega)
              refine ⟨_, lv'.ownBlock.toList ++ (bs ++ cs), rfl, ⟨lv', vs ++ [.iface ty tu], bs ++ cs, rfl, ?_, RepVs.keep _ _ _ (fun g hg => hkeep g (HG3.out g hg)) HP3.out, rfl⟩, ?_, ?_, (HR3.out.drewN m4).to1 (p' + 1), (HK3.out.trans (KB.drewN m4)).trans (KB.set 1 _)⟩
              · have h1 := ownsRow_keep (w' := (w3.drewN m4).setCell ⟨r, 1, none⟩ (.int .i64 (p' + 1 : Nat))) HO3.out (fun g hg => hkeep g (HO3.out.lt g hg).1)
                exact ⟨h1.1, h1.2.imp id fun ⟨g, cap, cur, a1, a2, a3⟩ => ⟨g, cap, cur, a1, Nat.zero_le _, a3⟩⟩
              · refine List.nodup_append.2 ⟨by cases lv'.ownBlock <;> simp, HN3.out, fun x hx y hy e => ?_⟩
                exact HD3.out x (by simpa using hx) (e ▸ hy)
              · intro g hg
                have h2 := HN.out
                rcases List.mem_append.1 hg with hg | hg
                · have := (HO3.out.lt g (by simpa using hg)).1; omega
                · have := HG3.out g hg; omega
            · have e93 : ¬ some s[p'] = some (93 : UInt8) := fun e => h93 (by have := Option.some.inj e; rw [this]; rfl)
              rw [if_neg e93] at heq
              have b93 : ((s[p'].toNat : Int) == 93) = false := by simp only [beq_eq_false_iff_ne, ne_eq]; omega
              clear e93
              by_cases h44 : s[p'].toNat = 44
              · have e44 : s[p'] = 44 := UInt8.toNat_inj.1 h44
                rw [if_pos (by rw [e44])] at heq
                have b44 : ((s[p'].toNat : Int) == 44) = true := by rw [h44]; rfl
                have H44 := Lib.hid h44
                have HE44 := Lib.hid e44
                clear h44 e44
                go_wp2_with fail
                refine (next_byte r s p' y' _ HR3.out hs hlt2).mono ?_
                rintro e w4 ⟨rfl, m4, rfl⟩
                go_wp2_with fail
                refine (word_any r s p' y' _ _ (HR3.out.drewN m4) hb1 hs (by decide)).mono ?_
                cases hw : wordR s.data.toList [44, 32] p' with
                | error e0 =>
                  rw [hw] at heq
                  intro e w5 hqq
                  obtain ⟨he, hk5⟩ : WordP r s y' _ (.error e0) e w5 := hqq
                  have HW := Lib.hid hw
                  clear hw
                  cases he
                  go_wp2_with fail
                  refine ⟨rfl, ?_⟩
                  show ValP _ _ _ _ _ _
                  rw [HE.out, ← heq.out]
                  exact ⟨rfl, (HK3.out.trans (KB.drewN m4)).trans hk5⟩
                | ok a'' =>
                  rw [hw] at heq
                  have hwb := wordR_bd [44, 32] p' a'' (by simpa using hb1) hw
                  simp at hwb
                  obtain ⟨hwb1, hwb2⟩ := hwb
                  intro e w5 hqq
                  obtain ⟨rfl, hrd5, hk5⟩ : WordP r s y' _ (.ok a'') e w5 := hqq
                  have HW := Lib.hid hw
                  have HR5 := Lib.hid hrd5
                  have HK5 := Lib.hid ((HK3.out.trans (KB.drewN m4)).trans hk5)
                  have hk5' : KB r w3 w5 := (KB.drewN m4).trans hk5
                  have HO5 : Hid (w5.ownsRow N 32 1 lv' (acc ++ [t]).length (vs ++ [.iface ty tu])) := ownsRow_keep HO3.out (fun g hg => hk5'.block g (HO3.out.lt g hg).2 (by have := (HO3.out.lt g hg).1; simp; omega))
                  have HP5 : Hid (RepVs w5 (acc ++ [t]) (vs ++ [.iface ty tu]) (bs ++ cs)) := RepVs.keep _ _ _ (fun g hg => hk5'.block g (RepVs.lt _ _ _ HP3.out g hg) (by have := HG3.out g hg; simp; omega)) HP3.out
                  have HWB := Lib.hid hwb1
                  clear hw hrd5 hk5 hk5' hwb1
                  go_wp2_with fail
                  go_roundw
                  case rel => exact ⟨q, a'', y', acc ++ [t], lv', _, bs ++ cs, rfl, by omega, by omega, by have := HWB.out; omega, by have := HWB.out; simp; omega, by have := HWB.out; omega, HO5, HP5, HD3, HN3, HG3, HR5, HK5, heq⟩
                  case measure => exact lt_measure hrd.out HR5.out (by have := HWB.out; omega) (by omega)
              · have e44 : ¬ some s[p'] = some (44 : UInt8) := fun e => h44 (by have := Option.some.inj e; rw [this]; rfl)
                rw [if_neg e44] at heq
                have b44 : ((s[p'].toNat : Int) == 44) = false := by simp only [beq_eq_false_iff_ne, ne_eq]; omega
                clear e44
                go_wp2_with fail
                refine (next_byte r s p' y' _ HR3.out hs hlt2).mono ?_
                rintro e w4 ⟨rfl, m4, rfl⟩
                go_wp2_with fail
                refine (wrong_any r _ _ _).mono ?_
                rintro e w5 ⟨he, rfl⟩
                cases he
                go_wp2_with fail
                refine ⟨rfl, ?_⟩
                show ValP _ _ _ _ _ _
                rw [HE.out, ← heq.out]
                exact ⟨rfl, HK3.out.trans (KB.drewN m4)⟩
    · have hlt : a + 1 < s.size := by omega
      by_cases h93 : s[a + 1].toNat = 93
      · have he : listR s (k + 1) a z deep = .ok (.list [], a + 2, z) := by rw [listR, if_neg h64, if_pos (by rw [at_some hlt]; congr 1; exact UInt8.toNat_inj.1 h93)]
        have b93 : ((s[a + 1].toNat : Int) == 93) = true := by rw [h93]; rfl
        have HE := Lib.hid he
        have H93 := Lib.hid h93
        clear he h93
        go_enter Tryz.func52, Tryz.ntmps52
        go_wp2_with fail
        refine (next_byte r s (a + 1) z _ HRD0.out hs hlt).mono ?_
        rintro e w1 ⟨rfl, m, rfl⟩
        obtain ⟨d0, d1, d2, g1, g2⟩ := (HRD0.out.drewN m).cells
        have d1' : ((w.setCell ⟨r, 1, none⟩ (.int .i64 ((a : Int) + 1))).alloc (.cells #[] 32)).cell? ⟨r, 1, none⟩ = some (.int .i64 ((a : Int) + 1)) := d1
        have g1' : ((w.setCell ⟨r, 1, none⟩ (.int .i64 ((a : Int) + 1))).alloc (.cells #[] 32)).frozen? ⟨r, 1, none⟩ = false := g1
        clear d0 d1 d2 g1 g2
        go_wp2_with fail
        go_ret
        show ValP _ _ _ _ _ _
        rw [HE.out]
        have hrN : r < N := by have := H.out.lt; have := HN.out; omega
        refine ⟨_, [w.heap.size], rfl, ⟨_, [], [], rfl, ?_, ⟨rfl, rfl⟩, rfl⟩, by simp, by simp, (HRD0.out.drewN m).to1 (a + 2), (HK0.out.trans (KB.drewN m)).trans (KB.set 1 _)⟩
        have h1 := ownsRow_keep (w' := (((w.setCell ⟨r, 1, none⟩ (.int .i64 (a + 1 : Nat))).alloc (.cells #[] 32)).drewN m).setCell ⟨r, 1, none⟩ (.int .i64 (a + 2 : Nat))) HRW.out (fun g hg => Below.heap_setCell _ _ _ _ (by have := (HRW.out.lt g hg).1; simp; omega))
        exact ⟨h1.1, h1.2.imp id fun ⟨g, cap, cur, a1, a2, a3⟩ => ⟨g, cap, cur, a1, Nat.zero_le _, a3⟩⟩
      · have he : listR s (k + 1) a z deep = elemsR s k (a + 1) z deep [] := by rw [listR, if_neg h64, if_neg (by rw [at_some hlt]; intro e; exact h93 (by have := Option.some.inj e; rw [this]; rfl))]
        have b93 : ((s[a + 1].toNat : Int) == 93) = false := by simp only [beq_eq_false_iff_ne, ne_eq]; omega
        have HE := Lib.hid he
        clear he h93
        go_enter Tryz.func52, Tryz.ntmps52
        go_wp2_with fail
        refine (next_byte r s (a + 1) z _ HRD0.out hs hlt).mono ?_
        rintro e w1 ⟨rfl, m, rfl⟩
        go_wp2_with fail
        go_loopw [5] (fun u wr => ∃ (q p y : Nat) (acc : List VT) (lv : Value) (vs : List Value) (bs : List Nat), lv = u ∧ q ≤ k ∧ p ≤ s.size ∧ y ≤ p ∧ acc.length ≤ p ∧ 3 * (s.size - p) + 4 ≤ q ∧ Hid (wr.ownsRow N 32 1 lv acc.length vs) ∧ Hid (RepVs wr acc vs bs) ∧ Hid (∀ g, lv.ownBlock = some g → g ∉ bs) ∧ Hid bs.Nodup ∧ Hid (∀ g ∈ bs, N ≤ g) ∧
            Hid (RD r s p y wr) ∧ Hid (KB r w wr) ∧ Hid (elemsR s q p y deep acc = elemsR s k (a + 1) z deep [])) (fun _ wr => s.size + 1 - rdAt r wr)
        case atStart => exact ⟨k, a + 1, z, [], _, [], [], rfl, by omega, by omega, by omega, by simp, by omega, HRW, Lib.hid ⟨rfl, rfl⟩, Lib.hid (by simp), Lib.hid (by simp), Lib.hid (by simp), Lib.hid (HRD0.out.drewN m), Lib.hid (HK0.out.trans (KB.drewN m)), Lib.hid rfl⟩
        case round =>
          obtain ⟨q, p, y, acc, lv, vs, bs, rfl, hqk, hp, hy, hacc, hq, hown, hrep, hdis, hnd, hge, hrd, hkb, heq⟩ := hrel
          obtain ⟨q, rfl⟩ : ∃ j, q = j + 1 := ⟨q - 1, by omega⟩
          have hdI : (deep : Int) + 1 = ((deep + 1 : Nat) : Int) := by omega
          have HDI := Lib.hid hdI
          clear hdI
          go_wp2_with fail
          rw [show (Value.int IntKind.i64 ((deep : Int) + 1)) = .int .i64 ((deep + 1 : Nat) : Int) from by rw [HDI.out]]
          refine (HI.out q (by omega) p y (deep + 1) wr hrd.out hp hy (by omega) (by omega) (HT.out.below (hkb.out.below hr h5) (Nat.le_refl 5)) (Nat.le_trans h5 hkb.out.size)).mono ?_
          cases hv : valR s q p y (deep + 1) with
          | error pc =>
            obtain ⟨p', c⟩ := pc
            intro e w2 hqq
            obtain ⟨he, hk2⟩ : ValP r s _ (.error (p', c)) e w2 := hqq
            have HV := Lib.hid hv
            clear hv
            cases he
            go_wp2_with fail
            refine ⟨rfl, ?_⟩
            show ValP _ _ _ _ _ _
            rw [HE.out, ← heq.out, elemsR, HV.out]
            exact ⟨rfl, hkb.out.trans hk2⟩
          | ok taz =>
            obtain ⟨t, p', y'⟩ := taz
            have hbd := valR_bd q p y (deep + 1) t p' y' hp hy hv
            have HV := Lib.hid hv
            clear hv
            obtain ⟨hb0, hb1, hb2⟩ := hbd
            intro e w2 hqq
            obtain ⟨v, cs, rfl, hrv, hnd2, hge2, hrd2, hk2⟩ : ValP r s _ (.ok (t, p', y')) e w2 := hqq
            obtain ⟨ty, tu, rfl⟩ := hrv.iface
            have hgr : ∀ g, lv.ownBlock = some g → N ≤ g ∧ g < wr.heap.size := fun g hg => hown.out.lt g hg
            have hrN : r < N := by have := H.out.lt; have := HN.out; omega
            have HO2 : Hid (w2.ownsRow N 32 1 lv acc.length vs) := ownsRow_keep hown.out (fun g hg => hk2.block g (hgr g hg).2 (by have := hgr g hg; simp; omega))
            have HP2 : Hid (RepVs w2 acc vs bs) := RepVs.keep _ _ _ (fun g hg => hk2.block g (RepVs.lt _ _ _ hrep.out g hg) (by have := hge.out g hg; simp; omega)) hrep.out
            have HV2 := Lib.hid hrv
            have HN2 := Lib.hid hnd2
            have HG2 := Lib.hid hge2
            have HR2 := Lib.hid hrd2
            have HK2 := Lib.hid (hkb.out.trans hk2)
            have HKW := Lib.hid hk2
            have HGR := Lib.hid hgr
            clear hrv hnd2 hge2 hrd2 hk2 hgr
            go_wp2_with (at_builtin; refine wpList_append_own_at _ rfl _ _ 46 rfl N 32 i0 .nilIface 1 16 Tryz.underlying46 HI0.out HZ0.out HZ1.out HZ2.out rfl (by decide) _ _ _ rfl (HO2.out.alloc _) ⟨w2.heap.size, 0, none⟩ 1 1 [.iface ty tu] rfl rfl ?c1 ?c2 ?c3 ?c4 ?c5 ?_)
            case c1 => exact one_new _ _ _
            case c2 => intro u hu; simp at hu; subst hu; rfl
            case c3 => unfold maxLen; omega
            case c4 => omega
            case c5 => have h1 := HN.out; have h2 := HK2.out.size; simp; omega
            intro lv' w3 hown' hgrow _ hblk
            have hs2 := HKW.out.size
            have hs3 := hgrow.size
            simp at hs3
            have hne : ∀ g, lv.ownBlock = some g → g ≠ r := fun g hg => by have := HGR.out g hg; omega
            have hold : ∀ g, g < w2.heap.size → lv.ownBlock ≠ some g → w3.heap[g]? = w2.heap[g]? := fun g hg hn => by
              rw [hgrow.block g (by simp; omega) (fun e => hn e.symm), Below.heap_alloc _ _ _ hg]
            have HR3 : Hid (RD r s p' y' w3) := HR2.out.old (hold r HR2.out.lt (fun e => hne r e rfl))
            have HK3 : Hid (KB r w w3) := by
              have h1 := HK2.out
              have h2 := HN.out
              refine ⟨hgrow.os.trans h1.os, hgrow.tape.trans h1.tape, hgrow.output.trans h1.output, by have := h1.size; omega, fun g hg hgr => ?_⟩
              rw [hold g (by have := h1.size; omega) (fun e => by have h3 := (HGR.out g e).1; omega)]
              exact h1.block g hg hgr
            have HO3 : Hid (w3.ownsRow N 32 1 lv' (acc ++ [t]).length (vs ++ [.iface ty tu])) := by
              show w3.ownsRow N 32 1 lv' (acc ++ [t]).length _
              simpa using hown'
            have HP3 : Hid (RepVs w3 (acc ++ [t]) (vs ++ [.iface ty tu]) (bs ++ cs)) :=
              RepVs.snoc _ _ _ _ _ _ (RepVs.keep _ _ _ (fun g hg => hold g (RepVs.lt _ _ _ HP2.out g hg) (fun e => hdis.out g e hg)) HP2.out)
                (RepV.keep _ _ _ (fun g hg => hold g (RepV.lt _ _ _ HV2.out g hg) (fun e => by have h3 := (HGR.out g e).2; have h4 := HG2.out g hg; omega)) HV2.out)
            have HD3 : Hid (∀ g, lv'.ownBlock = some g → g ∉ bs ++ cs) := by
              intro g hg hm
              rcases hblk with hb | hb
              · rw [hg] at hb
                rcases List.mem_append.1 hm with hm | hm
                · exact hdis.out g hb.symm hm
                · have h3 := (HGR.out g hb.symm).2
                  have h4 := HG2.out g hm
                  omega
              · rw [hg] at hb
                have hb : g = w2.heap.size + 1 := by simpa using hb
                rcases List.mem_append.1 hm with hm | hm
                · have := RepVs.lt _ _ _ HP2.out g hm; omega
                · have := RepV.lt _ _ _ HV2.out g hm; omega
            have HN3 : Hid (bs ++ cs).Nodup := List.nodup_append.2 ⟨hnd.out, HN2.out, fun x hx y hy e => by
              have h3 := RepVs.lt _ _ _ hrep.out x hx
              have h4 := HG2.out y hy
              omega⟩
            have HG3 : Hid (∀ g ∈ bs ++ cs, N ≤ g) := by
              intro g hg
              rcases List.mem_append.1 hg with hg | hg
              · exact hge.out g hg
              · have := HG2.out g hg; have := hkb.out.size; have := HN.out; omega
            clear hown' hgrow hblk hne hold hs3 hs2
            obtain ⟨d0, d1, d2, g1, g2⟩ := HR3.out.cells
            have hres : elemsR s (q + 1) p y deep acc = if s.data.toList[p']? = some 93 then .ok (.list (acc ++ [t]), p' + 1, y') else if s.data.toList[p']? = some 44 then (match wordR s.data.toList [44, 32] p' with
                | .error e => .error (e, 5)
                | .ok a'' => elemsR s q a'' y' deep (acc ++ [t])) else .error (p', 5) := by rw [elemsR, HV.out]; rfl
            rw [hres] at heq
            clear hres
            by_cases hend2 : p' = s.size
            · rw [at_none hend2, if_neg (by simp), if_neg (by simp)] at heq
              have HEN2 := Lib.hid hend2
              have HRE : Hid (RD r s s.size y' w3) := by rw [← hend2]; exact HR3
              clear hend2
              go_wp2_with fail
              refine (next_end r s y' _ HRE.out hs).mono ?_
              rintro e w4 ⟨rfl, m4, rfl⟩
              go_wp2_with fail
              refine (wrong_any r _ _ _).mono ?_
              rintro e w5 ⟨he, rfl⟩
              cases he
              go_wp2_with fail
              refine ⟨rfl, ?_⟩
              show ValP _ _ _ _ _ _
              rw [HE.out, ← heq.out]
              exact ⟨rfl, HK3.out.trans (KB.drewN m4)⟩
            · have hlt2 : p' < s.size := by omega
              rw [at_some hlt2] at heq
              by_cases h93 : s[p'].toNat = 93
              · have e93 : s[p'] = 93 := UInt8.toNat_inj.1 h93
                rw [if_pos (by rw [e93])] at heq
                have b93 : ((s[p'].toNat : Int) == 93) = true := by rw [h93]; rfl
                have H93 := Lib.hid h93
                have HE93 := Lib.hid e93
                clear h93 e93
                go_wp2_with fail
                refine (next_byte r s p' y' _ HR3.out hs hlt2).mono ?_
                rintro e w4 ⟨rfl, m4, rfl⟩
                go_wp2_with fail
                go_ret
                show ValP _ _ _ _ _ _
                rw [HE.out, ← heq.out]
                have hkeep : ∀ g, N ≤ g → ((w3.drewN m4).setCell ⟨r, 1, none⟩ (.int .i64 (p' + 1 : Nat))).heap[g]? = w3.heap[g]? := fun g hg => Below.heap_setCell _ _ _ _ (by simp; omega)
                refine ⟨_, lv'.ownBlock.toList ++ (bs ++ cs), rfl, ⟨lv', vs ++ [.iface ty tu], bs ++ cs, rfl, ?_, RepVs.keep _ _ _ (fun g hg => hkeep g (HG3.out g hg)) HP3.out, rfl⟩, ?_, ?_, (HR3.out.drewN m4).to1 (p' + 1), (HK3.out.trans (KB.drewN m4)).trans (KB.set 1 _)⟩
                · have h1 := ownsRow_keep (w' := (w3.drewN m4).setCell ⟨r, 1, none⟩ (.int .i64 (p' + 1 : Nat))) HO3.out (fun g hg => hkeep g (HO3.out.lt g hg).1)
                  exact ⟨h1.1, h1.2.imp id fun ⟨g, cap, cur, a1, a2, a3⟩ => ⟨g, cap, cur, a1, Nat.zero_le _, a3⟩⟩
                · refine List.nodup_append.2 ⟨by cases lv'.ownBlock <;> simp, HN3.out, fun x hx y hy e => ?_⟩
                  exact HD3.out x (by simpa using hx) (e ▸ hy)
                · intro g hg
                  have h2 := HN.out
                  rcases List.mem_append.1 hg with hg | hg
                  · have := (HO3.out.lt g (by simpa using hg)).1; omega
                  · have := HG3.out g hg; omega
              · have e93 : ¬ some s[p'] = some (93 : UInt8) := fun e => h93 (by have := Option.some.inj e; rw [this]; rfl)
                rw [if_neg e93] at heq
                have b93 : ((s[p'].toNat : Int) == 93) = false := by simp only [beq_eq_false_iff_ne, ne_eq]; omega
                clear e93
                by_cases h44 : s[p'].toNat = 44
                · have e44 : s[p'] = 44 := UInt8.toNat_inj.1 h44
                  rw [if_pos (by rw [e44])] at heq
                  have b44 : ((s[p'].toNat : Int) == 44) = true := by rw [h44]; rfl
                  have H44 := Lib.hid h44
                  have HE44 := Lib.hid e44
                  clear h44 e44
                  go_wp2_with fail
                  refine (next_byte r s p' y' _ HR3.out hs hlt2).mono ?_
                  rintro e w4 ⟨rfl, m4, rfl⟩
                  go_wp2_with fail
                  refine (word_any r s p' y' _ _ (HR3.out.drewN m4) hb1 hs (by decide)).mono ?_
                  cases hw : wordR s.data.toList [44, 32] p' with
                  | error e0 =>
                    rw [hw] at heq
                    intro e w5 hqq
                    obtain ⟨he, hk5⟩ : WordP r s y' _ (.error e0) e w5 := hqq
                    have HW := Lib.hid hw
                    clear hw
                    cases he
                    go_wp2_with fail
                    refine ⟨rfl, ?_⟩
                    show ValP _ _ _ _ _ _
                    rw [HE.out, ← heq.out]
                    exact ⟨rfl, (HK3.out.trans (KB.drewN m4)).trans hk5⟩
                  | ok a'' =>
                    rw [hw] at heq
                    have hwb := wordR_bd [44, 32] p' a'' (by simpa using hb1) hw
                    simp at hwb
                    obtain ⟨hwb1, hwb2⟩ := hwb
                    intro e w5 hqq
                    obtain ⟨rfl, hrd5, hk5⟩ : WordP r s y' _ (.ok a'') e w5 := hqq
                    have HW := Lib.hid hw
                    have HR5 := Lib.hid hrd5
                    have HK5 := Lib.hid ((HK3.out.trans (KB.drewN m4)).trans hk5)
                    have hk5' : KB r w3 w5 := (KB.drewN m4).trans hk5
                    have HO5 : Hid (w5.ownsRow N 32 1 lv' (acc ++ [t]).length (vs ++ [.iface ty tu])) := ownsRow_keep HO3.out (fun g hg => hk5'.block g (HO3.out.lt g hg).2 (by have := (HO3.out.lt g hg).1; simp; omega))
                    have HP5 : Hid (RepVs w5 (acc ++ [t]) (vs ++ [.iface ty tu]) (bs ++ cs)) := RepVs.keep _ _ _ (fun g hg => hk5'.block g (RepVs.lt _ _ _ HP3.out g hg) (by have := HG3.out g hg; simp; omega)) HP3.out
                    have HWB := Lib.hid hwb1
                    clear hw hrd5 hk5 hk5' hwb1
                    go_wp2_with fail
                    go_roundw
                    case rel => exact ⟨q, a'', y', acc ++ [t], lv', _, bs ++ cs, rfl, by omega, by omega, by have := HWB.out; omega, by have := HWB.out; simp; omega, by have := HWB.out; omega, HO5, HP5, HD3, HN3, HG3, HR5, HK5, heq⟩
                    case measure => exact lt_measure hrd.out HR5.out (by have := HWB.out; omega) (by omega)
                · have e44 : ¬ some s[p'] = some (44 : UInt8) := fun e => h44 (by have := Option.some.inj e; rw [this]; rfl)
                  rw [if_neg e44] at heq
                  have b44 : ((s[p'].toNat : Int) == 44) = false := by simp only [beq_eq_false_iff_ne, ne_eq]; omega
                  clear e44
                  go_wp2_with fail
                  refine (next_byte r s p' y' _ HR3.out hs hlt2).mono ?_
                  rintro e w4 ⟨rfl, m4, rfl⟩
                  go_wp2_with fail
                  refine (wrong_any r _ _ _).mono ?_
                  rintro e w5 ⟨he, rfl⟩
                  cases he
                  go_wp2_with fail
                  refine ⟨rfl, ?_⟩
                  show ValP _ _ _ _ _ _
                  rw [HE.out, ← heq.out]
                  exact ⟨rfl, HK3.out.trans (KB.drewN m4)⟩
end

section
open Go.RowKit
theorem rval_all (r : Nat) (s : ByteArray) (hs : s.size ≤ 1048576) (hr : 5 ≤ r) : ∀ k, RdVal r s k := by
  intro k
  induction k using Nat.strongRecOn with
  | _ k ih =>
    cases k with
    | zero => intro a z deep w _ _ _ hk; omega
    | succ k => exact rval_step r s k hs hr (rlist_step r s k hs hr (fun j hj => ih j (by omega)))
end

section
open Go.RowKit
set_option maxRecDepth 100000
@[go_sem] theorem as20_74 (v : Value) (w : World) : (Instr.typeAssert (.iface 70 v) 20 70 true).run Tryz.prog w = .ok (.tuple #[v, .bool true]) w := by kernel_rfl
@[go_sem] theorem as20_nil (w : World) : (Instr.typeAssert .nilIface 20 70 true).run Tryz.prog w = .ok (.tuple #[.agg #[.int .i64 0, .int .i64 0], .bool false]) w := by kernel_rfl
set_option maxHeartbeats 2000000 in
theorem catch_idle (p q t : Addr) (w : World) :
    CallsD Tryz.prog 31 #[.pointer (some p), .pointer (some q), .pointer (some t)] .returning w fun e u' w' => e = .returned (.tuple #[]) ∧ u' = .returning ∧ Below w.heap.size w w' := by
  refine callsD_of_wpS Tryz.func31 rfl fun c₀ cs hu => ?_
  apply wpS_seq
  apply wpS_region
  simp [wpOpsS, go_sem, recoverD, hu, Tryz.ntmps31, Exit.thenS]
  refine wpS_of_wp ?_
  change Code.wp Tryz.prog _ _ { tmps := #[.pointer (some p), .pointer (some q), .pointer (some t), .pointer (some ⟨w.heap.size, 0, none⟩), .bool false, .tuple #[.agg #[.int .i64 0, .int .i64 0], .bool false], .nilIface, .tuple #[.agg #[.int .i64 0, .int .i64 0], .bool false], .agg #[.int .i64 0, .int .i64 0], .bool false, undef, undef, undef, undef, undef], defers := [] } _
  go_wp2_with fail
  refine ⟨rfl, .returning, ?_, .tuple #[], by simp [results, Tryz.results31], rfl, rfl, alloc_below' _ _⟩
  cases c₀
  simp_all
def CatchEnd (N : Nat) (a : Nat) (c : Int) (w : World) (e : Exit) (a' : Act) (w' : World) : Prop :=
  e = .normal ∧ a'.defers = [] ∧ Below N w w' ∧ w'.cell? ⟨N, 0, none⟩ = some .nilIface ∧ w'.cell? ⟨N + 1, 0, none⟩ = some (.int .i64 a) ∧ w'.cell? ⟨N + 2, 0, none⟩ = some (.int .i64 c)
theorem set_heap {w : World} {b : Nat} {x v : Value} {t : TypeId} (h : w.heap[b]? = some (.cells #[x] t (0, 0))) : (w.setCell ⟨b, 0, none⟩ v).heap[b]? = some (.cells #[v] t (0, 0)) := by
  simp only [World.setCell, Array.getElem?_modify, h]
  simp
theorem catch_end {N : Nat} {a : Nat} {c : Int} {w W : World} {x y z : Value} (hW : Below N w W) (hx : W.heap[N]? = some (.cells #[x] 32 (0, 0))) (hy : W.heap[N + 1]? = some (.cells #[y] 3 (0, 0))) (hz : W.heap[N + 2]? = some (.cells #[z] 33 (0, 0))) {n : Nat} {tm : Array Value} :
    CatchEnd N a c w .normal { tmps := tm, defers := [] } ((((W.setCell ⟨N, 0, none⟩ .nilIface).setCell ⟨N + 1, 0, none⟩ (.int .i64 a)).setCell ⟨N + 2, 0, none⟩ (.int .i64 c)).drewN n) := by
  have k1 : ((W.setCell ⟨N, 0, none⟩ .nilIface).setCell ⟨N + 1, 0, none⟩ (.int .i64 a)).heap[N + 2]? = some (.cells #[z] 33 (0, 0)) := by
    rw [Below.heap_setCell _ _ _ _ (by simp), Below.heap_setCell _ _ _ _ (by simp)]; exact hz
  have k2 : (W.setCell ⟨N, 0, none⟩ .nilIface).heap[N + 1]? = some (.cells #[y] 3 (0, 0)) := by rw [Below.heap_setCell _ _ _ _ (by simp)]; exact hy
  have e3 := set_heap (v := .int .i64 c) k1
  have e2 := set_heap (v := .int .i64 a) k2
  have e1 := set_heap (v := .nilIface) hx
  refine ⟨rfl, rfl, ?_, ?_, ?_, ?_⟩
  · exact ((((hW.setCell (p := ⟨N, 0, none⟩) (Nat.le_refl _) _).setCell (p := ⟨N + 1, 0, none⟩) (by simp) _).setCell (p := ⟨N + 2, 0, none⟩) (by simp) _)).trans ⟨rfl, rfl, rfl, Nat.le_refl _, fun _ _ => rfl⟩
  · have h1 := (Below.heap_setCell ((W.setCell ⟨N, 0, none⟩ .nilIface).setCell ⟨N + 1, 0, none⟩ (.int .i64 a)) ⟨N + 2, 0, none⟩ (.int .i64 c) N (by simp)).trans ((Below.heap_setCell (W.setCell ⟨N, 0, none⟩ .nilIface) ⟨N + 1, 0, none⟩ (.int .i64 a) N (by simp)).trans e1)
    exact (Lib.cell_of_heap h1 0).trans rfl
  · have h1 := (Below.heap_setCell ((W.setCell ⟨N, 0, none⟩ .nilIface).setCell ⟨N + 1, 0, none⟩ (.int .i64 a)) ⟨N + 2, 0, none⟩ (.int .i64 c) (N + 1) (by simp)).trans e2
    exact (Lib.cell_of_heap h1 0).trans rfl
  · exact (Lib.cell_of_heap e3 0).trans rfl
theorem tmps_eq (p q t A B C D E F G : Value) : (#[p, q, t] ++ (((((((Array.replicate 12 undef).setIfInBounds 3 A).setIfInBounds 4 B).setIfInBounds 2 C).setIfInBounds 5 D).setIfInBounds 6 E).setIfInBounds 0 F).setIfInBounds 1 G) = #[p, q, t, F, G, C, A, B, D, E, undef, undef, undef, undef, undef] := by
  have h : (Array.replicate 12 undef : Array Value) = #[undef, undef, undef, undef, undef, undef, undef, undef, undef, undef, undef, undef] := by simp [Array.replicate]
  rw [h]
  simp
set_option maxHeartbeats 4000000 in
theorem catch_fault (N : Nat) (a : Nat) (c : Int) (older : List PanicEntry) (w : World) (x y z : Value) (hx : w.heap[N]? = some (.cells #[x] 32 (0, 0))) (hy : w.heap[N + 1]? = some (.cells #[y] 3 (0, 0))) (hz : w.heap[N + 2]? = some (.cells #[z] 33 (0, 0))) :
    CallsD Tryz.prog 31 #[.pointer (some ⟨N, 0, none⟩), .pointer (some ⟨N + 1, 0, none⟩), .pointer (some ⟨N + 2, 0, none⟩)] (.panicking ({ v := faultV a c, recovered := false } :: older)) w fun e u' w' =>
      e = .returned (.tuple #[]) ∧ u' = .panicking ({ v := faultV a c, recovered := true } :: older) ∧ Below N w w' ∧ w'.cell? ⟨N, 0, none⟩ = some .nilIface ∧ w'.cell? ⟨N + 1, 0, none⟩ = some (.int .i64 a) ∧ w'.cell? ⟨N + 2, 0, none⟩ = some (.int .i64 c) := by
  unfold faultV
  refine callsD_of_wpS Tryz.func31 rfl fun c₀ cs hu => ?_
  apply wpS_seq
  apply wpS_region
  simp [wpOpsS, go_sem, recoverD, hu, Tryz.ntmps31, Exit.thenS]
  refine wpS_of_wp ?_
  have hltN : N + 2 < w.heap.size := (Array.getElem?_eq_some_iff.1 hz).1
  have hlt1 : N + 1 < w.heap.size := (Array.getElem?_eq_some_iff.1 hy).1
  have hlt0 : N < w.heap.size := (Array.getElem?_eq_some_iff.1 hx).1
  refine Code.wp_mono (fun e a' w' (h : CatchEnd N a c w e a' w') => ?_) ?_
  · obtain ⟨rfl, hd, h⟩ := h
    exact ⟨hd, _, rfl, .tuple #[], by simp [results, Tryz.results31], rfl, rfl, h⟩
  clear hu
  obtain ⟨M, hM⟩ : ∃ M, M = w.heap.size := ⟨_, rfl⟩
  have hk : ∀ g, g < w.heap.size → (w.alloc (.cells #[.int .i64 a, .int .i64 c] 70)).heap[g]? = w.heap[g]? := fun g hg => Below.heap_alloc w _ g hg
  have hx' := (hk N hlt0).trans hx
  have hy' := (hk (N + 1) hlt1).trans hy
  have hz' := (hk (N + 2) hltN).trans hz
  have hnew := heap_alloc_new w (.cells #[.int .i64 a, .int .i64 c] 70)
  have hBW : Below N w (w.alloc (.cells #[.int .i64 a, .int .i64 c] 70)) := (alloc_below' w _).mono (by omega)
  rw [tmps_eq]
  rw [← hM] at hnew ⊢
  generalize w.alloc (.cells #[.int .i64 a, .int .i64 c] 70) = W at hx' hy' hz' hnew hBW ⊢
  have x0 : W.cell? ⟨N, 0, none⟩ = some x := by rw [Lib.cell_of_heap hx']; rfl
  have y0 : W.cell? ⟨N + 1, 0, none⟩ = some y := by rw [Lib.cell_of_heap hy']; rfl
  have z0 : W.cell? ⟨N + 2, 0, none⟩ = some z := by rw [Lib.cell_of_heap hz']; rfl
  have xf : W.frozen? ⟨N, 0, none⟩ = false := Lib.frozen_of_heap hx' 0
  have yf : W.frozen? ⟨N + 1, 0, none⟩ = false := Lib.frozen_of_heap hy' 0
  have zf : W.frozen? ⟨N + 2, 0, none⟩ = false := Lib.frozen_of_heap hz' 0
  have m0 : W.cell? ⟨M, 0, none⟩ = some (.int .i64 a) := by rw [Lib.cell_of_heap hnew]; rfl
  have m1 : W.cell? ⟨M, 1, none⟩ = some (.int .i64 c) := by rw [Lib.cell_of_heap hnew]; rfl
  have n0 : M ≠ N := by omega
  have n1 : M ≠ N + 1 := by omega
  have n2 : M ≠ N + 2 := by omega
  have HX := Lib.hid hx'
  have HY := Lib.hid hy'
  have HZ := Lib.hid hz'
  have HW := Lib.hid hBW
  clear hx hy hz hx' hy' hz' hnew hBW hk hM hltN hlt0 hlt1
  go_wp2_with fail
  go_region
  exact catch_end (n := 1) HW.out HX.out HY.out HZ.out
end

section
open Go.RowKit
set_option maxRecDepth 100000
set_option maxHeartbeats 2000000 in
theorem read_long (s : ByteArray) (w : World) (hs : 1048576 < s.size) (hm : s.size ≤ 9223372036854775807) : Calls Tryz.prog 11 #[.string s] w fun e w' => e = .returned (.tuple #[.nilIface, .int .i64 0, .int .i64 2]) ∧ Below w.heap.size w w' := by
  have hmf : ∀ (fn : Fn) (first cap : Array Value) (w : World), (Instr.makeFunc fn first cap).run Tryz.prog w = .ok (.func fn first cap) w := fun _ _ _ _ => rfl
  have h1 : (1048576 : Int) < (s.size : Int) := by omega
  go_enter_defers Tryz.func11, Tryz.ntmps11
  go_wp2_with fail
  show Leaves _ _ _ _ _ _ _
  refine ⟨.tuple #[.nilIface, .int .i64 0, .int .i64 2], by simp [results, Tryz.results11, go_sem], rfl, ?_⟩
  exact ((alloc_below' w _).alloc (by simp) _).alloc (by simp; omega) _
def readR (s : ByteArray) : Except (Nat × Int) VT :=
  match valR s (3 * s.size + 3) 0 0 0 with
  | .error pc => .error pc
  | .ok (t, a', z') => if a' < s.size then .error (a', 5) else if 65536 < z' then .error (s.size, 2) else .ok t
def ReadP (w : World) : Except (Nat × Int) VT → Ending → World → Prop
  | .error (p, c), e, w' => e = .returned (.tuple #[.nilIface, .int .i64 p, .int .i64 c]) ∧ Below w.heap.size w w'
  | .ok t, e, w' => ∃ v bs, e = .returned (.tuple #[v, .int .i64 0, .int .i64 0]) ∧ RepV w' t v bs ∧ bs.Nodup ∧ (∀ g ∈ bs, w.heap.size ≤ g) ∧ Below w.heap.size w w'
def ReadQ (w : World) (x : Except (Nat × Int) VT) (e : Ending) (w' : World) : Prop := ReadP w x e w'
theorem ReadQ.fault {w : World} {x : Except (Nat × Int) VT} {p : Nat} {c : Int} {w' : World} (h : x = .error (p, c)) (hb : Below w.heap.size w w') : ReadQ w x (.returned (.tuple #[.nilIface, .int .i64 p, .int .i64 c])) w' := by
  subst h; exact ⟨rfl, hb⟩
set_option maxHeartbeats 4000000 in
theorem read_short (s : ByteArray) (w : World) (hs : s.size ≤ 1048576) (ht : Tabs w) (h5 : 5 ≤ w.heap.size) : Calls Tryz.prog 11 #[.string s] w (ReadQ w (readR s)) := by
  have hmf : ∀ (fn : Fn) (first cap : Array Value) (w : World), (Instr.makeFunc fn first cap).run Tryz.prog w = .ok (.func fn first cap) w := fun _ _ _ _ => rfl
  have h1 : ¬ ((1048576 : Int) < (s.size : Int)) := by omega
  go_enter_defers Tryz.func11, Tryz.ntmps11
  have hrd : RD (w.heap.size + 3) s 0 0 ((((w.alloc (.cells #[.nilIface] 32)).alloc (.cells #[.int .i64 0] 3)).alloc (.cells #[.int .i64 0] 33)).alloc (.cells #[.string s, .int .i64 0, .int .i64 0] 74)) := by
    have h := heap_alloc_new (((w.alloc (.cells #[.nilIface] 32)).alloc (.cells #[.int .i64 0] 3)).alloc (.cells #[.int .i64 0] 33)) (.cells #[.string s, .int .i64 0, .int .i64 0] 74)
    have e : (((w.alloc (.cells #[.nilIface] 32)).alloc (.cells #[.int .i64 0] 3)).alloc (.cells #[.int .i64 0] 33)).heap.size = w.heap.size + 3 := by simp
    rw [e] at h
    exact h
  have hbw : Below w.heap.size w ((((w.alloc (.cells #[.nilIface] 32)).alloc (.cells #[.int .i64 0] 3)).alloc (.cells #[.int .i64 0] 33)).alloc (.cells #[.string s, .int .i64 0, .int .i64 0] 74)) :=
    (((alloc_below' w _).alloc (by simp) _).alloc (by simp; omega) _).alloc (by simp; omega) _
  have hn0 : (fun (V : World) => V.heap[w.heap.size]? = some (.cells #[.nilIface] 32 (0, 0)) ∧ V.heap[w.heap.size + 1]? = some (.cells #[.int .i64 0] 3 (0, 0)) ∧ V.heap[w.heap.size + 2]? = some (.cells #[.int .i64 0] 33 (0, 0)) ∧ w.heap.size + 1 < V.heap.size ∧ w.heap.size + 2 < V.heap.size)
      ((((w.alloc (.cells #[.nilIface] 32)).alloc (.cells #[.int .i64 0] 3)).alloc (.cells #[.int .i64 0] 33)).alloc (.cells #[.string s, .int .i64 0, .int .i64 0] 74)) := by
    have a0 := heap_alloc_new w (.cells #[.nilIface] 32)
    have a1 := heap_alloc_new (w.alloc (.cells #[.nilIface] 32)) (.cells #[.int .i64 0] 3)
    have a2 := heap_alloc_new ((w.alloc (.cells #[.nilIface] 32)).alloc (.cells #[.int .i64 0] 3)) (.cells #[.int .i64 0] 33)
    have z1 : (w.alloc (.cells #[.nilIface] 32)).heap.size = w.heap.size + 1 := by simp
    have z2 : ((w.alloc (.cells #[.nilIface] 32)).alloc (.cells #[.int .i64 0] 3)).heap.size = w.heap.size + 2 := by simp
    have z3 : (((w.alloc (.cells #[.nilIface] 32)).alloc (.cells #[.int .i64 0] 3)).alloc (.cells #[.int .i64 0] 33)).heap.size = w.heap.size + 3 := by simp
    rw [z1] at a1
    rw [z2] at a2
    refine ⟨?_, ?_, ?_, by simp, by simp⟩
    · rw [Below.heap_alloc _ _ _ (by omega), Below.heap_alloc _ _ _ (by omega), Below.heap_alloc _ _ _ (by omega)]; exact a0
    · rw [Below.heap_alloc _ _ _ (by omega), Below.heap_alloc _ _ _ (by omega)]; exact a1
    · rw [Below.heap_alloc _ _ _ (by omega)]; exact a2
  have HN0 := Lib.hid hn0
  clear hn0
  have HRD := Lib.hid hrd
  have HBW := Lib.hid hbw
  have HT := Lib.hid ht
  clear hrd hbw ht
  go_wp2_with fail
  generalize ((((w.alloc (.cells #[.nilIface] 32)).alloc (.cells #[.int .i64 0] 3)).alloc (.cells #[.int .i64 0] 33)).alloc (.cells #[.string s, .int .i64 0, .int .i64 0] 74)) = W at HRD HBW HN0 ⊢
  refine (rval_all (w.heap.size + 3) s hs (by omega) (3 * s.size + 3) 0 0 0 W HRD.out (by omega) (by omega) (by omega) (by omega) (HT.out.below HBW.out h5) (Nat.le_trans h5 HBW.out.size)).mono ?_
  cases hv : valR s (3 * s.size + 3) 0 0 0 with
  | error pc =>
    obtain ⟨p, c⟩ := pc
    intro e w2 hq
    obtain ⟨he, hk2⟩ : ValP (w.heap.size + 3) s _ (.error (p, c)) e w2 := hq
    cases he
    go_wp2_with fail
    refine leaves_cons (f := 31) (args := #[.pointer (some ⟨w.heap.size, 0, none⟩), .pointer (some ⟨w.heap.size + 1, 0, none⟩), .pointer (some ⟨w.heap.size + 2, 0, none⟩)]) (by simp) (by simp [go_sem]) ?_
    refine (catch_fault w.heap.size p c [] w2 _ _ _ ((hk2.block _ (by have := HBW.out.size; have := HN0.out; omega) (by simp)).trans HN0.out.1) ((hk2.block _ HN0.out.2.2.2.1 (by simp)).trans HN0.out.2.1) ((hk2.block _ HN0.out.2.2.2.2 (by simp)).trans HN0.out.2.2.1)).mono ?_
    rintro e u' w3 ⟨rfl, rfl, hB3, g0, g1, g2⟩
    have hres : readR s = .error (p, c) := by unfold readR; rw [hv]
    have HRS := Lib.hid hres
    have hB4 : Below w.heap.size w w3 := (HBW.out.trans (hk2.below (by omega) HBW.out.size)).trans hB3
    clear hres
    simp [Leaves, settle, results, Tryz.results11, go_sem, g0, g1, g2]
    exact ReadQ.fault HRS.out hB4
  | ok x =>
    obtain ⟨t, a', z'⟩ := x
    have hbd := valR_bd _ _ _ _ _ _ _ (Nat.zero_le _) (Nat.le_refl 0) hv
    obtain ⟨hb0, hb1, hb2⟩ := hbd
    intro e w2 hq
    obtain ⟨v, bs, rfl, hrv, hnd, hge, hrd, hk2⟩ : ValP (w.heap.size + 3) s _ (.ok (t, a', z')) e w2 := hq
    obtain ⟨ty, tu, rfl⟩ := hrv.iface
    have hx2 := (hk2.block _ (by have := HBW.out.size; have := HN0.out; omega) (by simp)).trans HN0.out.1
    have hy2 := (hk2.block _ HN0.out.2.2.2.1 (by simp)).trans HN0.out.2.1
    have hz2 := (hk2.block _ HN0.out.2.2.2.2 (by simp)).trans HN0.out.2.2.1
    have f0 : w2.frozen? ⟨w.heap.size, 0, none⟩ = false := Lib.frozen_of_heap hx2 0
    obtain ⟨d0, d1, d2, g1, g2⟩ := hrd.cells
    have x0 : w2.cell? ⟨w.heap.size, 0, none⟩ = some .nilIface := by rw [Lib.cell_of_heap hx2]; rfl
    have HS0 : Hid ((w2.setCell ⟨w.heap.size, 0, none⟩ (.iface ty tu)).heap[w.heap.size]? = some (.cells #[.iface ty tu] 32 (0, 0))) := set_heap hx2
    have HS1 : Hid ((w2.setCell ⟨w.heap.size, 0, none⟩ (.iface ty tu)).heap[w.heap.size + 1]? = some (.cells #[.int .i64 0] 3 (0, 0))) := (Below.heap_setCell _ _ _ _ (by simp)).trans hy2
    have HS2 : Hid ((w2.setCell ⟨w.heap.size, 0, none⟩ (.iface ty tu)).heap[w.heap.size + 2]? = some (.cells #[.int .i64 0] 33 (0, 0))) := (Below.heap_setCell _ _ _ _ (by simp)).trans hz2
    have HB2 : Hid (Below w.heap.size w (w2.setCell ⟨w.heap.size, 0, none⟩ (.iface ty tu))) := (HBW.out.trans (hk2.below (by omega) HBW.out.size)).setCell (Nat.le_refl _) _
    have HX2 := Lib.hid hx2
    have HY2 := Lib.hid hy2
    have HZ2 := Lib.hid hz2
    have HV := Lib.hid hv
    have HRV := Lib.hid hrv
    have HND := Lib.hid hnd
    have HGE := Lib.hid hge
    have HRD2 := Lib.hid hrd
    have HK2 := Lib.hid hk2
    clear hx2 hy2 hz2 hv hrv hnd hge hrd hk2
    by_cases hlt : (a' : Int) < (s.size : Int)
    · have hres : readR s = .error (a', 5) := by unfold readR; rw [HV.out]; simp only; rw [if_pos (by omega)]
      have HRS := Lib.hid hres
      clear hres
      go_wp2_with fail
      refine (wrong_any (w.heap.size + 3) _ _ _).mono ?_
      rintro e w4 ⟨he, rfl⟩
      cases he
      go_wp2_with fail
      refine leaves_cons (f := 31) (args := #[.pointer (some ⟨w.heap.size, 0, none⟩), .pointer (some ⟨w.heap.size + 1, 0, none⟩), .pointer (some ⟨w.heap.size + 2, 0, none⟩)]) (by simp) (by simp [go_sem]) ?_
      refine (catch_fault w.heap.size (a') 5 [] _ _ _ _ HS0.out HS1.out HS2.out).mono ?_
      rintro e u' w3 ⟨rfl, rfl, hB3, g0, g1, g2⟩
      have hB4 : Below w.heap.size w w3 := HB2.out.trans hB3
      simp [Leaves, settle, results, Tryz.results11, go_sem, g0, g1, g2]
      exact ReadQ.fault HRS.out hB4
    · have ha' : ¬ a' < s.size := by omega
      by_cases hz : (65536 : Int) < (z' : Int)
      · have hres : readR s = .error (s.size, 2) := by unfold readR; rw [HV.out]; simp only; rw [if_neg ha', if_pos (by omega)]
        have HRS := Lib.hid hres
        clear hres ha'
        go_wp2_with fail
        refine (wrong_any (w.heap.size + 3) _ _ _).mono ?_
        rintro e w4 ⟨he, rfl⟩
        cases he
        go_wp2_with fail
        refine leaves_cons (f := 31) (args := #[.pointer (some ⟨w.heap.size, 0, none⟩), .pointer (some ⟨w.heap.size + 1, 0, none⟩), .pointer (some ⟨w.heap.size + 2, 0, none⟩)]) (by simp) (by simp [go_sem]) ?_
        refine (catch_fault w.heap.size (s.size) 2 [] _ _ _ _ HS0.out HS1.out HS2.out).mono ?_
        rintro e u' w3 ⟨rfl, rfl, hB3, g0, g1, g2⟩
        have hB4 : Below w.heap.size w w3 := HB2.out.trans hB3
        simp [Leaves, settle, results, Tryz.results11, go_sem, g0, g1, g2]
        exact ReadQ.fault HRS.out hB4
      · have hres : readR s = .ok t := by unfold readR; rw [HV.out]; simp only; rw [if_neg ha', if_neg (by omega)]
        have HRS := Lib.hid hres
        clear hres ha'
        have y0 : w2.cell? ⟨w.heap.size + 1, 0, none⟩ = some (.int .i64 0) := by rw [Lib.cell_of_heap HY2.out]; rfl
        have z0 : w2.cell? ⟨w.heap.size + 1 + 1, 0, none⟩ = some (.int .i64 0) := by rw [Lib.cell_of_heap HZ2.out]; rfl
        have yf : w2.frozen? ⟨w.heap.size + 1, 0, none⟩ = false := Lib.frozen_of_heap HY2.out 0
        have zf : w2.frozen? ⟨w.heap.size + 1 + 1, 0, none⟩ = false := Lib.frozen_of_heap HZ2.out 0
        go_wp2_with fail
        refine leaves_cons (f := 31) (args := #[.pointer (some ⟨w.heap.size, 0, none⟩), .pointer (some ⟨w.heap.size + 1, 0, none⟩), .pointer (some ⟨w.heap.size + 2, 0, none⟩)]) (by simp) (by simp [go_sem]) ?_
        refine (catch_idle _ _ _ _).mono ?_
        rintro e u' w4 ⟨rfl, rfl, hB4⟩
        have hN0 : w.heap.size < w2.heap.size := (Array.getElem?_eq_some_iff.1 HX2.out).1
        have hN1 : w.heap.size + 1 < w2.heap.size := (Array.getElem?_eq_some_iff.1 HY2.out).1
        have hN2 : w.heap.size + 2 < w2.heap.size := (Array.getElem?_eq_some_iff.1 HZ2.out).1
        have key : ∀ g, g < w2.heap.size → w4.heap[g]? = ((((w2.setCell ⟨w.heap.size, 0, none⟩ (.iface ty tu)).setCell ⟨w.heap.size, 0, none⟩ (.iface ty tu)).setCell ⟨w.heap.size + 1, 0, none⟩ (.int .i64 0)).setCell ⟨w.heap.size + 2, 0, none⟩ (.int .i64 0)).heap[g]? := fun g hg => hB4.block g (by simp [World.setCell]; omega)
        have q0 := set_heap (v := .iface ty tu) (set_heap (v := .iface ty tu) HX2.out)
        have g0 : w4.cell? ⟨w.heap.size, 0, none⟩ = some (.iface ty tu) := by
          rw [Lib.cell_of_heap ((key _ hN0).trans ((Below.heap_setCell _ _ _ _ (by simp)).trans ((Below.heap_setCell _ _ _ _ (by simp)).trans q0)))]; rfl
        have g1 : w4.cell? ⟨w.heap.size + 1, 0, none⟩ = some (.int .i64 0) := by
          rw [Lib.cell_of_heap ((key _ hN1).trans ((Below.heap_setCell _ _ _ _ (by simp)).trans (set_heap (v := .int .i64 0) ((Below.heap_setCell _ _ _ _ (by simp)).trans ((Below.heap_setCell _ _ _ _ (by simp)).trans HY2.out)))))]; rfl
        have g2 : w4.cell? ⟨w.heap.size + 2, 0, none⟩ = some (.int .i64 0) := by
          rw [Lib.cell_of_heap ((key _ hN2).trans (set_heap (v := .int .i64 0) ((Below.heap_setCell _ _ _ _ (by simp)).trans ((Below.heap_setCell _ _ _ _ (by simp)).trans ((Below.heap_setCell _ _ _ _ (by simp)).trans HZ2.out)))))]; rfl
        have hfin : ReadQ w (readR s) (.returned (.tuple #[.iface ty tu, .int .i64 0, .int .i64 0])) w4 := by
          show ReadP _ _ _ _
          rw [HRS.out]
          have hbs : ∀ g ∈ bs, w.heap.size + 4 ≤ g := fun g hg => by have h1 := HGE.out g hg; have h2 := HRD.out.lt; omega
          refine ⟨_, bs, rfl, RepV.keep _ _ _ (fun g hg => ?_) HRV.out, HND.out, fun g hg => by have := hbs g hg; omega, ?_⟩
          · have h4 := hbs g hg
            exact (key g (RepV.lt _ _ _ HRV.out g hg)).trans ((Below.heap_setCell _ _ _ _ (by simp; omega)).trans ((Below.heap_setCell _ _ _ _ (by simp; omega)).trans ((Below.heap_setCell _ _ _ _ (by simp; omega)).trans (Below.heap_setCell _ _ _ _ (by simp; omega)))))
          · exact (((HB2.out.setCell (p := ⟨w.heap.size, 0, none⟩) (Nat.le_refl _) _).setCell (p := ⟨w.heap.size + 1, 0, none⟩) (by simp) _).setCell (p := ⟨w.heap.size + 2, 0, none⟩) (by simp) _).trans (hB4.mono (by simp [World.setCell]; omega))
        have HF := Lib.hid hfin
        clear hfin key q0
        simp [Leaves, settle, results, Tryz.results11, go_sem, g0, g1, g2]
        exact HF.out
end

section
open Go.RowKit
set_option maxRecDepth 100000
theorem dig_toNat {d : Nat} (h : d < 10) : (UInt8.ofNat (48 + d)).toNat = 48 + d := by
  rw [UInt8.toNat_ofNat']
  omega
theorem decDigits_big {u : Nat} (h : ¬ u < 10) : Lib.decDigits u = Lib.decDigits (u / 10) ++ [UInt8.ofNat (48 + u % 10)] := by rw [Lib.decDigits, dif_neg h]
/-- A digit. -/
def IsDig (c : UInt8) : Prop := 48 ≤ c.toNat ∧ c.toNat ≤ 57
theorem decDigits_dig : ∀ (n u : Nat), u < n → ∀ c ∈ Lib.decDigits u, IsDig c
  | 0, u, h, c, hc => by omega
  | n + 1, u, h, c, hc => by
    by_cases h1 : u < 10
    · rw [Lib.decDigits_one h1] at hc
      have : c = UInt8.ofNat (48 + u) := by simpa using hc
      subst this
      unfold IsDig
      rw [dig_toNat h1]; omega
    · rw [decDigits_big h1] at hc
      rcases List.mem_append.1 hc with hc | hc
      · exact decDigits_dig n (u / 10) (by omega) c hc
      · have : c = UInt8.ofNat (48 + u % 10) := by simpa using hc
        subst this
        unfold IsDig
        rw [dig_toNat (by omega)]; omega
/-- The first digit is no nought, but of 0. -/
theorem decDigits_head : ∀ (n u : Nat), u < n → 1 ≤ u → ∃ c r, Lib.decDigits u = c :: r ∧ 49 ≤ c.toNat ∧ c.toNat ≤ 57
  | 0, u, h, _ => by omega
  | n + 1, u, h, h0 => by
    by_cases h1 : u < 10
    · exact ⟨_, [], Lib.decDigits_one h1, by rw [dig_toNat h1]; omega, by rw [dig_toNat h1]; omega⟩
    · obtain ⟨c, r, e, h2, h3⟩ := decDigits_head n (u / 10) (by omega) (by omega)
      exact ⟨c, r ++ [UInt8.ofNat (48 + u % 10)], by rw [decDigits_big h1, e]; rfl, h2, h3⟩
theorem parse_step {M acc : Nat} {c : UInt8} {r : List UInt8} (hc : IsDig c) (h : acc * 10 + (c.toNat - 48) ≤ M) (hM : M ≤ 18446744073709551615) :
    Lib.parseUintM M acc (c :: r) = Lib.parseUintM M (acc * 10 + (c.toNat - 48)) r := by
  obtain ⟨h1, h2⟩ := hc
  rw [Lib.parseUintM, if_pos ⟨h1, h2⟩, if_neg (by omega), if_neg (by omega)]
/-- The digits of u are read as u. -/
theorem parse_dec {M : Nat} (hM : M ≤ 18446744073709551615) : ∀ (n u : Nat) (r : List UInt8), u < n → u ≤ M → Lib.parseUintM M 0 (Lib.decDigits u ++ r) = Lib.parseUintM M u r
  | 0, u, r, h, _ => by omega
  | n + 1, u, r, h, hu => by
    by_cases h1 : u < 10
    · rw [Lib.decDigits_one h1]
      show Lib.parseUintM M 0 (UInt8.ofNat (48 + u) :: r) = _
      have hd := dig_toNat h1
      rw [parse_step ⟨by omega, by omega⟩ (by omega) hM, hd]
      congr 1; omega
    · rw [decDigits_big h1, List.append_assoc, parse_dec hM n (u / 10) _ (by omega) (by omega)]
      show Lib.parseUintM M (u / 10) (UInt8.ofNat (48 + u % 10) :: r) = _
      have hd := dig_toNat (d := u % 10) (by omega)
      rw [parse_step ⟨by omega, by omega⟩ (by omega) hM, hd]
      congr 1; omega
theorem parseB_pos {u : Nat} (h : u ≤ 9223372036854775807) : Lib.parseIntB 64 (Lib.decDigits u) = .ok u := by
  have hp := parse_dec (M := 2 ^ 64 - 1) (by decide) (u + 1) u [] (by omega) (by omega)
  rw [List.append_nil] at hp
  have hd := decDigits_dig (u + 1) u (by omega)
  cases hl : Lib.decDigits u with
  | nil =>
    exfalso
    by_cases h0 : u < 10
    · rw [Lib.decDigits_one h0] at hl; simp at hl
    · rw [decDigits_big h0] at hl; simp at hl
  | cons c r =>
    have hc := hd c (by rw [hl]; simp)
    obtain ⟨c1, c2⟩ := hc
    rw [hl] at hp
    unfold Lib.parseIntB
    simp only
    rw [if_neg (by omega)]
    unfold Lib.parseUintB
    rw [if_neg (by simp), hp]
    simp only [Lib.parseUintM]
    rw [if_neg (by have : (2 : Nat) ^ (64 - 1) = 9223372036854775808 := by decide
                   omega), if_neg (by omega), if_neg (by omega)]
theorem parseB_neg {u : Nat} (h1 : 1 ≤ u) (h : u ≤ 9223372036854775808) : Lib.parseIntB 64 (45 :: Lib.decDigits u) = .ok (-(u : Int)) := by
  have hp := parse_dec (M := 2 ^ 64 - 1) (by decide) (u + 1) u [] (by omega) (by omega)
  rw [List.append_nil] at hp
  obtain ⟨c, r, e, _, _⟩ := decDigits_head (u + 1) u (by omega) h1
  unfold Lib.parseIntB
  simp only
  rw [if_pos (by decide)]
  unfold Lib.parseUintB
  rw [if_neg (by rw [e]; simp), hp]
  simp only [Lib.parseUintM]
  have e45 : (45 : UInt8).toNat = 45 := by decide
  have e63 : (2 : Nat) ^ (64 - 1) = 9223372036854775808 := by decide
  rw [if_neg (by omega), if_neg (by omega), if_pos (by decide)]
theorem parse_itoa {n : Int} (h : -9223372036854775808 ≤ n ∧ n ≤ 9223372036854775807) : Lib.parseIntB 64 (Lib.itoa n) = .ok n := by
  unfold Lib.itoa
  split
  · rw [parseB_neg (by omega) (by omega)]
    congr 1; omega
  · rw [parseB_pos (by omega)]
    congr 1; omega
/-- What is read of digits with no nought ahead has them as its own. -/
theorem dec_parse {M : Nat} : ∀ (l : List UInt8) (acc u : Nat), 1 ≤ acc → Lib.parseUintM M acc l = .ok u → Lib.decDigits u = Lib.decDigits acc ++ l ∧ acc ≤ u
  | [], acc, u, ha, h => by
    simp only [Lib.parseUintM, Lib.NumEnd.ok.injEq] at h
    subst h; simp
  | c :: r, acc, u, ha, h => by
    rw [Lib.parseUintM] at h
    split at h
    · rename_i hc
      split at h
      · cases h
      · split at h
        · cases h
        · obtain ⟨e, h2⟩ := dec_parse r _ u (by omega) h
          refine ⟨?_, by omega⟩
          have h3 : ¬ (acc * 10 + (c.toNat - 48)) < 10 := by omega
          rw [e, decDigits_big h3, List.append_assoc]
          have h4 : (acc * 10 + (c.toNat - 48)) / 10 = acc := by omega
          have h5 : 48 + (acc * 10 + (c.toNat - 48)) % 10 = c.toNat := by omega
          rw [h4, h5]
          simp
    · cases h
theorem dec_parse0 {M : Nat} {c : UInt8} {r : List UInt8} {u : Nat} (h1 : 49 ≤ c.toNat) (h2 : c.toNat ≤ 57) (h : Lib.parseUintM M 0 (c :: r) = .ok u) : Lib.decDigits u = c :: r ∧ 1 ≤ u := by
  rw [Lib.parseUintM, if_pos ⟨by omega, h2⟩, if_neg (by omega)] at h
  split at h
  · cases h
  · obtain ⟨e, h3⟩ := dec_parse r _ u (by omega) h
    refine ⟨?_, by omega⟩
    have h4 : (0 * 10 + (c.toNat - 48)) < 10 := by omega
    rw [e, Lib.decDigits_one h4]
    have h5 : 48 + (0 * 10 + (c.toNat - 48)) = c.toNat := by omega
    rw [h5]; simp
/-- A canonical numeral that is read as v is v's. -/
theorem itoa_parse {c : UInt8} {r : List UInt8} {v : Int} (h1 : 49 ≤ c.toNat) (h2 : c.toNat ≤ 57) (h : Lib.parseIntB 64 (c :: r) = .ok v) : Lib.itoa v = c :: r ∧ -9223372036854775808 ≤ v ∧ v ≤ 9223372036854775807 := by
  unfold Lib.parseIntB at h
  simp only at h
  rw [if_neg (by omega)] at h
  unfold Lib.parseUintB at h
  rw [if_neg (by simp)] at h
  split at h
  · cases h
  · cases h
  · rename_i u hu
    obtain ⟨e, h3⟩ := dec_parse0 h1 h2 hu
    split at h
    · cases h
    · rename_i h4
      split at h
      · cases h
      · have e63 : (2 : Nat) ^ (64 - 1) = 9223372036854775808 := by decide
        rw [if_neg (by omega)] at h
        simp only [Lib.NumEnd.ok.injEq] at h
        subst h
        refine ⟨?_, by omega, ?_⟩
        · rw [Lib.itoa_nonneg]; exact e
        · have : ¬ (9223372036854775808 ≤ u) := fun h5 => h4 ⟨by omega, by omega⟩
          omega
theorem itoa_parse_neg {c : UInt8} {r : List UInt8} {v : Int} (h1 : 49 ≤ c.toNat) (h2 : c.toNat ≤ 57) (h : Lib.parseIntB 64 (45 :: c :: r) = .ok v) : Lib.itoa v = 45 :: c :: r ∧ -9223372036854775808 ≤ v ∧ v ≤ 9223372036854775807 := by
  have e45 : (45 : UInt8).toNat = 45 := by decide
  unfold Lib.parseIntB at h
  simp only at h
  rw [if_pos (by decide)] at h
  unfold Lib.parseUintB at h
  rw [if_neg (by simp)] at h
  split at h
  · cases h
  · cases h
  · rename_i u hu
    obtain ⟨e, h3⟩ := dec_parse0 h1 h2 hu
    split at h
    · cases h
    · split at h
      · cases h
      · rename_i h4
        have e63 : (2 : Nat) ^ (64 - 1) = 9223372036854775808 := by decide
        simp only [Lib.NumEnd.ok.injEq] at h
        subst h
        have h5 : ¬ (9223372036854775808 < u) := fun h5 => h4 ⟨by omega, by omega⟩
        refine ⟨?_, by omega, by omega⟩
        rw [Lib.itoa_neg u h3, e]
theorem parse_zero {v : Int} (h : Lib.parseIntB 64 [48] = .ok v) : v = 0 := by
  have h0 := parseB_pos (u := 0) (by omega)
  rw [Lib.decDigits_one (by omega)] at h0
  have h1 : Lib.parseIntB 64 [48] = .ok ((0 : Nat) : Int) := h0
  rw [h1] at h
  simp only [Lib.NumEnd.ok.injEq] at h
  rw [← h]; rfl
theorem itoa_zero : Lib.itoa 0 = [48] := by
  have := Lib.itoa_nonneg 0
  rw [Lib.decDigits_one (by omega)] at this
  exact this
end

section
open Go.RowKit
set_option maxRecDepth 100000
theorem drop_cons {L : List UInt8} {a : Nat} {c : UInt8} (h : L[a]? = some c) : L.drop a = c :: L.drop (a + 1) := by
  obtain ⟨hlt, e⟩ := List.getElem?_eq_some_iff.1 h
  rw [List.drop_eq_getElem_cons hlt, e]
theorem at_drop {L : List UInt8} {a : Nat} {c : UInt8} {r : List UInt8} (h : L.drop a = c :: r) : L[a]? = some c ∧ L.drop (a + 1) = r := by
  have h1 : (L.drop a)[0]? = some c := by rw [h]; rfl
  rw [List.getElem?_drop] at h1
  refine ⟨by simpa using h1, ?_⟩
  have := congrArg (List.drop 1) h
  rw [List.drop_drop] at this
  simpa using this
theorem drop_app {L x r : List UInt8} {a : Nat} (h : L.drop a = x ++ r) : L.drop (a + x.length) = r := by
  have := congrArg (List.drop x.length) h
  rw [List.drop_drop, List.drop_left] at this
  exact this
theorem word_fwd {L : List UInt8} : ∀ (l r : List UInt8) (a : Nat), L.drop a = l ++ r → wordR L l a = .ok (a + l.length)
  | [], r, a, h => rfl
  | b :: l, r, a, h => by
    obtain ⟨h1, h2⟩ := at_drop (show L.drop a = b :: (l ++ r) from h)
    rw [wordR, if_pos h1, word_fwd l r (a + 1) h2, List.length_cons]
    congr 1; omega
theorem word_bwd {L : List UInt8} : ∀ (l : List UInt8) (a a' : Nat), wordR L l a = .ok a' → L.drop a = l ++ L.drop a'
  | [], a, a', h => by
    simp only [wordR, Except.ok.injEq] at h
    subst h; rfl
  | b :: l, a, a', h => by
    simp only [wordR] at h
    split at h
    · rename_i hc
      rw [drop_cons hc, word_bwd l (a + 1) a' h]; rfl
    · cases h
/-! hex digits -/
theorem hexI_of : ∀ n : Fin 16, hexI (hexd n.val) = (n.val : Int) := by decide
theorem hexd_all : ∀ c : Fin 256, 0 ≤ hexI (UInt8.ofNat c.val) → hexI (UInt8.ofNat c.val) ≤ 15 ∧ hexd (hexI (UInt8.ofNat c.val)).toNat = UInt8.ofNat c.val := by decide
theorem hexd_of {c : UInt8} (h : 0 ≤ hexI c) : hexI c ≤ 15 ∧ hexd (hexI c).toNat = c := by
  have := hexd_all ⟨c.toNat, c.toNat_lt⟩
  simp only [UInt8.ofNat_toNat] at this
  exact this h
theorem esc_bwd {L : List UInt8} {a a' : Nat} {x : UInt8} (h : escR L a = .ok (x, a')) : [92] ++ L.drop a = quoteB x ++ L.drop (a' + 1) := by
  unfold escR at h
  split at h
  · cases h
  · rename_i c hc
    split at h
    · rename_i h1
      simp only [Except.ok.injEq, Prod.mk.injEq] at h
      obtain ⟨rfl, rfl⟩ := h
      unfold quoteB
      rw [if_pos h1, drop_cons hc]; rfl
    · split at h
      · cases h
      · rename_i h1 h2
        have h120 : c.toNat = 120 := Classical.byContradiction h2
        have ec : c = 120 := UInt8.toNat_inj.1 (by rw [h120]; rfl)
        subst ec
        rw [escT] at h
        split at h
        · cases h
        · rename_i c1 hc1
          split at h
          · cases h
          · rename_i g1
            split at h
            · cases h
            · rw [escT] at h
              split at h
              · cases h
              · rename_i c2 hc2
                split at h
                · cases h
                · rename_i g2
                  split at h
                  · cases h
                  · rename_i g3
                    simp only [escT, Except.ok.injEq, Prod.mk.injEq] at h
                    obtain ⟨rfl, rfl⟩ := h
                    have p1 : 0 ≤ hexI c1 := by have := fun e => g1 (.inl e); omega
                    have p2 : 0 ≤ hexI c2 := by have := fun e => g2 (.inl e); omega
                    obtain ⟨q1, r1⟩ := hexd_of p1
                    obtain ⟨q2, r2⟩ := hexd_of p2
                    have hv : (UInt8.ofNat (((0 * 16 + hexI c1) * 16 + hexI c2).toNat)).toNat = (hexI c1).toNat * 16 + (hexI c2).toNat := by
                      rw [UInt8.toNat_ofNat']; omega
                    have g4 : ¬ (32 ≤ (hexI c1).toNat * 16 + (hexI c2).toNat ∧ (hexI c1).toNat * 16 + (hexI c2).toNat ≤ 126) := fun e => g3 ⟨rfl, by omega, by omega⟩
                    unfold quoteB
                    rw [hv, if_neg (by omega), if_neg (by omega), drop_cons hc, drop_cons hc1, drop_cons hc2]
                    have d1 : ((hexI c1).toNat * 16 + (hexI c2).toNat) / 16 = (hexI c1).toNat := by omega
                    have d2 : ((hexI c1).toNat * 16 + (hexI c2).toNat) % 16 = (hexI c2).toNat := by omega
                    rw [d1, d2, r1, r2]
                    rfl
theorem esc_fwd {L r : List UInt8} {a : Nat} {x : UInt8} (hx : quoteB x ≠ [x]) (h : [92] ++ L.drop a = quoteB x ++ r) : ∃ a', escR L a = .ok (x, a') ∧ a' + 2 = a + (quoteB x).length ∧ L.drop (a' + 1) = r := by
  unfold quoteB at h hx ⊢
  by_cases h1 : x.toNat = 34 ∨ x.toNat = 92
  · rw [if_pos h1] at h
    obtain ⟨e1, e2⟩ := at_drop (show L.drop a = x :: r from by simpa using h)
    refine ⟨a, ?_, by rw [if_pos h1]; simp, e2⟩
    unfold escR
    rw [e1]
    simp only
    rw [if_pos h1]
  · rw [if_neg h1] at h hx
    by_cases h2 : 32 ≤ x.toNat ∧ x.toNat ≤ 126
    · rw [if_pos h2] at hx; exact absurd rfl hx
    · rw [if_neg h2] at h
      obtain ⟨e1, f1⟩ := at_drop (show L.drop a = 120 :: (hexd (x.toNat / 16) :: hexd (x.toNat % 16) :: r) from by simpa using h)
      obtain ⟨e2, f2⟩ := at_drop f1
      obtain ⟨e3, f3⟩ := at_drop f2
      have hx256 := x.toNat_lt
      have i1 := hexI_of ⟨x.toNat / 16, by omega⟩
      have i2 := hexI_of ⟨x.toNat % 16, by omega⟩
      simp only at i1 i2
      refine ⟨a + 2, ?_, by rw [if_neg h1, if_neg h2]; simp, f3⟩
      unfold escR
      rw [e1]
      simp only
      rw [if_neg (by decide), if_neg (by decide), escT_some e2, if_neg (by rw [i1]; omega), if_neg (by omega), escT_some e3, if_neg (by rw [i2]; omega), if_neg (by rw [i1, i2]; omega)]
      simp only [escT]
      rw [i1, i2]
      have : UInt8.ofNat ((0 * 16 + ((x.toNat / 16 : Nat) : Int)) * 16 + ((x.toNat % 16 : Nat) : Int)).toNat = x := by
        have e : ((0 * 16 + ((x.toNat / 16 : Nat) : Int)) * 16 + ((x.toNat % 16 : Nat) : Int)).toNat = x.toNat := by omega
        rw [e]; simp
      rw [this]
theorem quote_cons (x : UInt8) (r : List UInt8) : quoteL (x :: r) = quoteB x ++ quoteL r := by simp [quoteL]
theorem text_bwd {L : List UInt8} : ∀ (k a : Nat) (acc acc' : List UInt8) (a' : Nat), textF L k a acc = .ok (acc', a') → ∃ x, acc' = acc ++ x ∧ L.drop a = quoteL x ++ [34] ++ L.drop a'
  | 0, a, acc, acc', a', h => by simp [textF] at h
  | k + 1, a, acc, acc', a', h => by
    simp only [textF] at h
    split at h
    · cases h
    · rename_i c hc
      split at h
      · cases h
      · rename_i h1
        split at h
        · rename_i h2
          simp only [Except.ok.injEq, Prod.mk.injEq] at h
          obtain ⟨rfl, rfl⟩ := h
          have ec : c = 34 := UInt8.toNat_inj.1 (by rw [h2]; rfl)
          subst ec
          exact ⟨[], by simp, by rw [drop_cons hc]; rfl⟩
        · rename_i h2
          split at h
          · rename_i h3
            have ec : c = 92 := UInt8.toNat_inj.1 (by rw [h3]; rfl)
            subst ec
            split at h
            · cases h
            · rename_i x q hq
              obtain ⟨y, e1, e2⟩ := text_bwd k (q + 1) _ _ _ h
              refine ⟨x :: y, by rw [e1]; simp, ?_⟩
              rw [drop_cons hc, quote_cons, List.append_assoc, List.append_assoc, ← List.append_assoc (quoteL y), ← e2]
              exact esc_bwd hq
          · rename_i h3
            obtain ⟨y, e1, e2⟩ := text_bwd k (a + 1) _ _ _ h
            refine ⟨c :: y, by rw [e1]; simp, ?_⟩
            have hq : quoteB c = [c] := by
              unfold quoteB
              rw [if_neg (by omega), if_pos (by omega)]
            rw [drop_cons hc, quote_cons, hq, e2]; rfl
theorem quoteB_one_or (x : UInt8) : (quoteB x = [x] ∧ x.toNat ≠ 34 ∧ x.toNat ≠ 92 ∧ 32 ≤ x.toNat ∧ x.toNat ≤ 126) ∨ (quoteB x ≠ [x] ∧ ∃ y, quoteB x = 92 :: y) := by
  unfold quoteB
  by_cases h1 : x.toNat = 34 ∨ x.toNat = 92
  · rw [if_pos h1]; exact .inr ⟨by simp, _, rfl⟩
  · rw [if_neg h1]
    by_cases h2 : 32 ≤ x.toNat ∧ x.toNat ≤ 126
    · rw [if_pos h2]; exact .inl ⟨rfl, by omega, by omega, h2.1, h2.2⟩
    · rw [if_neg h2]; exact .inr ⟨by simp, _, rfl⟩
theorem text_fwd {L : List UInt8} : ∀ (x : List UInt8) (k a : Nat) (acc r : List UInt8), x.length < k → L.drop a = quoteL x ++ [34] ++ r → textF L k a acc = .ok (acc ++ x, a + (quoteL x).length + 1)
  | [], 0, a, acc, r, hk, h => by omega
  | [], k + 1, a, acc, r, hk, h => by
    obtain ⟨e1, _⟩ := at_drop (show L.drop a = 34 :: r from by simpa [quoteL] using h)
    rw [textF, e1]
    simp only
    rw [if_neg (by decide), if_pos (by decide)]
    simp [quoteL]
  | x :: y, 0, a, acc, r, hk, h => by omega
  | x :: y, k + 1, a, acc, r, hk, h => by
    rw [quote_cons, List.append_assoc, List.append_assoc] at h
    rcases quoteB_one_or x with ⟨e, n1, n2, n3, n4⟩ | ⟨hne, z, e⟩
    · rw [e] at h
      obtain ⟨e1, e2⟩ := at_drop (show L.drop a = x :: (quoteL y ++ ([34] ++ r)) from h)
      rw [textF, e1]
      simp only
      rw [if_neg (by omega), if_neg n1, if_neg n2, text_fwd y k (a + 1) _ r (by simpa using hk) (by rw [e2, List.append_assoc]), quote_cons, e]
      simp; omega
    · have h' := h
      rw [e] at h'
      obtain ⟨e1, e2⟩ := at_drop (show L.drop a = 92 :: (z ++ (quoteL y ++ ([34] ++ r))) from h')
      obtain ⟨q, hq, hl, hd⟩ := esc_fwd (L := L) (a := a + 1) (x := x) (r := quoteL y ++ ([34] ++ r)) hne (by rw [e2, e]; rfl)
      rw [textF, e1]
      simp only
      rw [if_neg (by decide), if_neg (by decide), if_pos (by decide), hq]
      simp only
      rw [text_fwd y k (q + 1) _ r (by simpa using hk) (by rw [hd, List.append_assoc]), quote_cons]
      simp; omega
end

section
open Go.RowKit
set_option maxRecDepth 100000
theorem extract_list (s : ByteArray) (a e : Nat) : (s.extract a e).data.toList = (s.data.toList.drop a).take (e - a) := by
  simp [ByteArray.data_extract, Array.toList_extract, List.extract]
theorem drop_split (L : List UInt8) {a e : Nat} (h : a ≤ e) : L.drop a = (L.drop a).take (e - a) ++ L.drop e := by
  have h1 := List.take_append_drop (e - a) (L.drop a)
  rw [List.drop_drop, Nat.add_sub_cancel' h] at h1
  exact h1.symm
def EndOK (r : List UInt8) : Prop := ∀ c r', r = c :: r' → ¬ IsDig c
theorem scan_ge {L : List UInt8} : ∀ (k p : Nat), p ≤ scanD L k p
  | 0, p => Nat.le_refl _
  | k + 1, p => by
    unfold scanD
    split
    · exact Nat.le_refl _
    · split
      · have := scan_ge (L := L) k (p + 1); omega
      · exact Nat.le_refl _
theorem scan_fwd {L : List UInt8} : ∀ (ds r : List UInt8) (k p : Nat), ds.length < k → (∀ c ∈ ds, IsDig c) → EndOK r → L.drop p = ds ++ r → scanD L k p = p + ds.length
  | ds, r, 0, p, hk, _, _, _ => by omega
  | [], r, k + 1, p, hk, hd, he, h => by
    unfold scanD
    cases hr : r with
    | nil =>
      have : L[p]? = none := by
        have h1 : (L.drop p)[0]? = none := by rw [h, hr]; rfl
        rw [List.getElem?_drop] at h1
        simpa using h1
      rw [this]; rfl
    | cons c r' =>
      obtain ⟨e1, _⟩ := at_drop (show L.drop p = c :: r' from by rw [h, hr]; rfl)
      rw [e1]
      simp only
      rw [if_neg (show ¬ (48 ≤ c.toNat ∧ c.toNat ≤ 57) from he c r' hr)]; rfl
  | d :: ds, r, k + 1, p, hk, hd, he, h => by
    obtain ⟨e1, e2⟩ := at_drop (show L.drop p = d :: (ds ++ r) from h)
    unfold scanD
    rw [e1]
    simp only
    rw [if_pos (show 48 ≤ d.toNat ∧ d.toNat ≤ 57 from hd d (by simp)), scan_fwd ds r k (p + 1) (by simpa using hk) (fun c hc => hd c (by simp [hc])) he e2, List.length_cons]
    omega
theorem num_bwd {s : ByteArray} {a z : Nat} {t : VT} {a' z' : Nat} (h : numR s a z = .ok (t, a', z')) :
    ∃ n, t = .int n ∧ (-9223372036854775808 ≤ n ∧ n ≤ 9223372036854775807) ∧ s.data.toList.drop a = Lib.itoa n ++ s.data.toList.drop a' ∧ z' = z := by
  have key : ∀ e, a ≤ e → numV s a e z = .ok (t, a', z') → (∀ v, Lib.parseIntB 64 ((s.data.toList.drop a).take (e - a)) = .ok v → Lib.itoa v = (s.data.toList.drop a).take (e - a) ∧ -9223372036854775808 ≤ v ∧ v ≤ 9223372036854775807) →
      ∃ n, t = .int n ∧ (-9223372036854775808 ≤ n ∧ n ≤ 9223372036854775807) ∧ s.data.toList.drop a = Lib.itoa n ++ s.data.toList.drop a' ∧ z' = z := by
    intro e he hn hv
    unfold numV at hn
    rw [extract_list] at hn
    split at hn
    · rename_i v hp
      simp only [Except.ok.injEq, Prod.mk.injEq] at hn
      obtain ⟨rfl, rfl, rfl⟩ := hn
      obtain ⟨e1, e2⟩ := hv v hp
      exact ⟨v, rfl, e2, by rw [e1]; exact drop_split _ he, rfl⟩
    · cases hn
  unfold numR at h
  split at h
  · cases h
  · rename_i c hc
    split at h
    · rename_i h45
      have ec : c = 45 := UInt8.toNat_inj.1 (by rw [h45]; rfl)
      subst ec
      split at h
      · cases h
      · rename_i d hd
        split at h
        · rename_i h49
          have hge : a + 2 ≤ numEnd s.data.toList (a + 1) d := by
            unfold numEnd
            rw [if_neg (by omega)]
            exact scan_ge _ _
          refine key _ (by omega) h fun v hv => ?_
          have e1 : (s.data.toList.drop a).take (numEnd s.data.toList (a + 1) d - a) = 45 :: d :: (s.data.toList.drop (a + 2)).take (numEnd s.data.toList (a + 1) d - a - 2) := by
            rw [drop_cons hc, drop_cons hd]
            obtain ⟨m, hm⟩ : ∃ m, numEnd s.data.toList (a + 1) d - a = m + 2 := ⟨numEnd s.data.toList (a + 1) d - a - 2, by omega⟩
            rw [hm]; rfl
          rw [e1] at hv ⊢
          exact itoa_parse_neg h49.1 h49.2 hv
        · cases h
    · split at h
      · rename_i h48
        by_cases h0 : c.toNat = 48
        · have ec : c = 48 := UInt8.toNat_inj.1 (by rw [h0]; rfl)
          subst ec
          have e0 : numEnd s.data.toList a 48 = a + 1 := by unfold numEnd; rw [if_pos (by decide)]
          rw [e0] at h
          refine key _ (by omega) h fun v hv => ?_
          have e1 : (s.data.toList.drop a).take (a + 1 - a) = [48] := by
            rw [drop_cons hc, Nat.add_sub_cancel_left]; rfl
          rw [e1] at hv ⊢
          have := parse_zero hv
          subst this
          exact ⟨itoa_zero, by decide, by decide⟩
        · have hge : a + 1 ≤ numEnd s.data.toList a c := by
            unfold numEnd
            rw [if_neg h0]
            exact scan_ge _ _
          refine key _ (by omega) h fun v hv => ?_
          have e1 : (s.data.toList.drop a).take (numEnd s.data.toList a c - a) = c :: (s.data.toList.drop (a + 1)).take (numEnd s.data.toList a c - a - 1) := by
            rw [drop_cons hc]
            obtain ⟨m, hm⟩ : ∃ m, numEnd s.data.toList a c - a = m + 1 := ⟨numEnd s.data.toList a c - a - 1, by omega⟩
            rw [hm]; rfl
          rw [e1] at hv ⊢
          exact itoa_parse (by omega) h48.2 hv
      · cases h
theorem drop_len {L x r : List UInt8} {a : Nat} (h : L.drop a = x ++ r) : x.length ≤ L.length := by
  have := congrArg List.length h
  simp only [List.length_drop, List.length_append] at this
  omega
theorem num_fwd {s : ByteArray} {a z : Nat} {n : Int} {r : List UInt8} (hn : -9223372036854775808 ≤ n ∧ n ≤ 9223372036854775807) (hr : EndOK r) (h : s.data.toList.drop a = Lib.itoa n ++ r) :
    numR s a z = .ok (.int n, a + (Lib.itoa n).length, z) := by
  have hV : numV s a (a + (Lib.itoa n).length) z = .ok (.int n, a + (Lib.itoa n).length, z) := by
    unfold numV
    rw [extract_list, h, Nat.add_sub_cancel_left, List.take_left, parse_itoa hn]
  by_cases h0 : n < 0
  · have e1 : Lib.itoa n = 45 :: Lib.decDigits n.natAbs := by unfold Lib.itoa; rw [if_pos h0]
    obtain ⟨d, ds, e2, e3, e4⟩ := decDigits_head (n.natAbs + 1) n.natAbs (by omega) (by omega)
    have hdig := decDigits_dig (n.natAbs + 1) n.natAbs (by omega)
    rw [e2] at hdig
    rw [e1, e2] at hV ⊢
    rw [e1, e2] at h
    obtain ⟨c1, c2⟩ := at_drop (show s.data.toList.drop a = 45 :: (d :: (ds ++ r)) from h)
    obtain ⟨d1, d2⟩ := at_drop c2
    have hl := drop_len (L := s.data.toList) (a := a + 1 + 1) (x := ds) (r := r) d2
    have hsc := scan_fwd ds r (s.data.toList.length + 1) (a + 1 + 1) (by omega) (fun c hc => hdig c (by simp [hc])) hr d2
    unfold numR
    rw [c1]
    simp only
    rw [if_pos (by decide), d1]
    simp only
    rw [if_pos ⟨e3, e4⟩]
    unfold numEnd
    rw [if_neg (by omega), hsc]
    have : a + 1 + 1 + ds.length = a + (45 :: d :: ds).length := by simp; omega
    rw [this]; exact hV
  · have e1 : Lib.itoa n = Lib.decDigits n.toNat := by unfold Lib.itoa; rw [if_neg h0]
    by_cases hz : n.toNat = 0
    · have e2 : Lib.itoa n = [48] := by rw [e1, hz]; exact Lib.decDigits_one (by omega)
      rw [e2] at hV h ⊢
      obtain ⟨c1, c2⟩ := at_drop (show s.data.toList.drop a = 48 :: r from h)
      unfold numR
      rw [c1]
      simp only
      rw [if_neg (by decide), if_pos (by decide)]
      unfold numEnd
      rw [if_pos (by decide)]
      exact hV
    · obtain ⟨d, ds, e2, e3, e4⟩ := decDigits_head (n.toNat + 1) n.toNat (by omega) (by omega)
      have hdig := decDigits_dig (n.toNat + 1) n.toNat (by omega)
      rw [e2] at hdig
      rw [e1, e2] at hV ⊢
      rw [e1, e2] at h
      obtain ⟨d1, d2⟩ := at_drop (show s.data.toList.drop a = d :: (ds ++ r) from h)
      have hl := drop_len (L := s.data.toList) (a := a + 1) (x := ds) (r := r) d2
      have hsc := scan_fwd ds r (s.data.toList.length + 1) (a + 1) (by omega) (fun c hc => hdig c (by simp [hc])) hr d2
      unfold numR
      rw [d1]
      simp only
      rw [if_neg (by omega), if_pos ⟨by omega, e4⟩]
      unfold numEnd
      rw [if_neg (by omega), hsc]
      have : a + 1 + ds.length = a + (d :: ds).length := by simp; omega
      rw [this]; exact hV
end

section
open Go.RowKit
set_option maxRecDepth 100000
theorem cells24 : Tryz.prog.cellsOf 27 = 4 := by kernel_rfl
theorem cells3' : Tryz.prog.cellsOf 3 = 1 := by kernel_rfl
theorem cells2' : Tryz.prog.cellsOf 2 = 1 := by kernel_rfl
theorem cells9' : Tryz.prog.cellsOf 9 = 1 := by kernel_rfl
theorem cells22' : Tryz.prog.cellsOf 25 = 1 := by kernel_rfl
theorem bytes24 : Tryz.prog.bytesOf 27 = 56 := by kernel_rfl
/-- A plain value's cells. -/
def CsP (w : World) : PT → List Value → Prop
  | .mk k n s l, cs => s.size ≤ 140737488355328 ∧ l.length ≤ 4398046511104 ∧ ∃ la lc, cs = [.int .i64 k, .int .i64 n, .string s, .slice la l.length lc] ∧ (l ≠ [] → ∃ b' o', la = some ⟨b', o', none⟩ ∧ InPs w b' o' l)
theorem choose_list {α : Type} {Q : Nat → α → Prop} : ∀ n : Nat, (∀ i, i < n → ∃ p, Q i p) → ∃ l : List α, l.length = n ∧ ∀ i (h : i < l.length), Q i l[i]
  | 0, _ => ⟨[], rfl, fun i h => by simp at h⟩
  | n + 1, h => by
    obtain ⟨l, hl, hq⟩ := choose_list n (fun i hi => h i (by omega))
    obtain ⟨p, hp⟩ := h n (by omega)
    refine ⟨l ++ [p], by simp [hl], fun i hi => ?_⟩
    by_cases h1 : i < l.length
    · rw [List.getElem_append_left h1]; exact hq i h1
    · have h2 : i = l.length := by simp at hi; omega
      subst h2
      simp only [List.getElem_concat_length]
      rw [hl]; exact hp
theorem inPs_of {w : World} {b : Nat} : ∀ (l : List PT) (o : Nat), (∀ i (h : i < l.length), InP w b (o + 4 * i) l[i]) → InPs w b o l
  | [], _, _ => trivial
  | p :: r, o, h => by
    refine ⟨h 0 (by simp), inPs_of r (o + 4) fun i hi => ?_⟩
    have := h (i + 1) (by simpa using hi)
    simpa [Nat.mul_add, Nat.add_assoc, Nat.add_comm 4] using this
theorem spot_of_cell {w : World} {a : Addr} {v : Value} (h : w.cell? a = some v) : a.spot = none := World.cell?_spot h
theorem cells4_of {w : World} {b o : Nat} {cs : List Value} (h : w.cells? 0 ⟨b, o, none⟩ 4 = some cs) : ∃ c0 c1 c2 c3, cs = [c0, c1, c2, c3] ∧ w.cell? ⟨b, o, none⟩ = some c0 ∧ w.cell? ⟨b, o + 1, none⟩ = some c1 ∧ w.cell? ⟨b, o + 2, none⟩ = some c2 ∧ w.cell? ⟨b, o + 3, none⟩ = some c3 := by
  unfold World.cells? at h
  rw [if_pos (Nat.zero_le _)] at h
  have e : ∀ j, (⟨b, o, none⟩ : Addr).add j = ⟨b, o + j, none⟩ := fun j => Go.WideShapes.add_plain ..
  simp only [e, show List.range 4 = [0, 1, 2, 3] from by decide, List.mapM_cons, List.mapM_nil, Option.bind_eq_bind, Option.bind_eq_some_iff, Option.pure_def, Option.some.injEq] at h
  obtain ⟨c0, h0, _, ⟨c1, h1, _, ⟨c2, h2, _, ⟨c3, h3, _, rfl, rfl⟩, rfl⟩, rfl⟩, rfl⟩ := h
  exact ⟨c0, c1, c2, c3, rfl, h0, h1, h2, h3⟩
theorem inP_of {w : World} {b o : Nat} {p : PT} {cs : List Value} (h : w.cells? 0 ⟨b, o, none⟩ 4 = some cs) (hp : CsP w p cs) : InP w b o p := by
  obtain ⟨c0, c1, c2, c3, rfl, h0, h1, h2, h3⟩ := cells4_of h
  cases p with
  | mk k n s l =>
    obtain ⟨e1, e2, la, lc, e3, e4⟩ := hp
    simp only [List.cons.injEq, and_true] at e3
    obtain ⟨rfl, rfl, rfl, rfl⟩ := e3
    exact ⟨e1, e2, la, lc, ⟨h0, h1, h2, h3⟩, e4⟩
theorem okPs_of : ∀ l : List PT, (∀ i (h : i < l.length), okP l[i]) → okPs l
  | [], _ => trivial
  | p :: r, h => ⟨h 0 (by simp), okPs_of r fun i hi => h (i + 1) (by simpa using hi)⟩
theorem weights_mem_all {H : Type} {e : TypeId} {n : Nat} : ∀ {ds : List (DataW H)} {d : DataW H}, d ∈ ds → n ∈ d.weights Tryz.prog e → n ∈ DataW.weightsAll Tryz.prog e ds
  | d0 :: r, d, hd, hn => by
    simp only [DataW.weightsAll, List.mem_append]
    rcases List.mem_cons.1 hd with rfl | hd
    · exact .inl hn
    · exact .inr (weights_mem_all hd hn)
  | [], _, hd, _ => by simp at hd
section
variable {H : Type} {enc : TypeId × Value → H} {W : World} {spare : Nat → Bool} {held : Bool}
theorem open_pt : ∀ (m : Nat) {fuel : Nat} {cs : List Value} {x : DataW H × List MemPlace}, fuel ≤ m → DataW.trod enc Tryz.prog W 0 spare held fuel 27 cs = some x → (∀ n ∈ x.1.weights Tryz.prog 27, n ≤ reachBytes) → ∃ p : PT, CsP W p cs ∧ okP p
  | 0, fuel, cs, x, hf, h, _ => by
    obtain rfl : fuel = 0 := by omega
    simp [DataW.trod] at h
  | m + 1, fuel, cs, x, hf, h, hw => by
    obtain ⟨xs, n, rfl, rfl, hcl, hxl, hel⟩ := DataW.trod_struct Tryz.underlying27 h
    rw [cells24] at hcl
    match cs, hcl with
    | [c0, c1, c2, c3], _ =>
    match xs, hxl with
    | [x0, x1, x2, x3], _ =>
    have h0 : DataW.trod enc Tryz.prog W 0 spare held n 3 (([c0, c1, c2, c3].drop 0).take (Tryz.prog.cellsOf 3)) = some x0 := hel 0 _ rfl
    have h1 : DataW.trod enc Tryz.prog W 0 spare held n 2 (([c0, c1, c2, c3].drop 1).take (Tryz.prog.cellsOf 2)) = some x1 := hel 1 _ rfl
    have h2 : DataW.trod enc Tryz.prog W 0 spare held n 9 (([c0, c1, c2, c3].drop 2).take (Tryz.prog.cellsOf 9)) = some x2 := hel 2 _ rfl
    have h3 : DataW.trod enc Tryz.prog W 0 spare held n 25 (([c0, c1, c2, c3].drop 3).take (Tryz.prog.cellsOf 25)) = some x3 := hel 3 _ rfl
    rw [cells3'] at h0
    rw [cells2'] at h1
    rw [cells9'] at h2
    rw [cells22'] at h3
    simp only [List.drop_zero, List.drop_succ_cons, List.take_succ_cons, List.take_zero] at h0 h1 h2 h3
    obtain ⟨k, e0, rfl, w0⟩ := DataW.trod_int Tryz.underlying3 h0
    obtain ⟨nn, e1, rfl, w1⟩ := DataW.trod_int Tryz.underlying2 h1
    obtain ⟨s, e2, rfl, w2⟩ := DataW.trod_string Tryz.underlying9 h2
    simp only [List.cons.injEq, and_true] at e0 e1 e2
    subst e0 e1 e2
    have hb := bounds_i64 w1
    have hw' : ∀ z ∈ DataW.weightsEach Tryz.prog [3, 2, 9, 25] [DataW.lit (.int .i64 k), .lit (.int .i64 nn), .lit (.string s.data.toList), x3.1], z ≤ reachBytes := by
      intro z hz
      refine hw z ?_
      have : ((DataW.agg ([((DataW.lit (.int .i64 k) : DataW H), ([] : List MemPlace)), (.lit (.int .i64 nn), []), (.lit (.string s.data.toList), []), x3].map (·.1))).weights Tryz.prog 27) = DataW.weightsEach Tryz.prog [3, 2, 9, 25] [DataW.lit (.int .i64 k), .lit (.int .i64 nn), .lit (.string s.data.toList), x3.1] := by
        simp [DataW.weights, Tryz.underlying27]
      rw [this]; exact hz
    have hs : s.size ≤ 140737488355328 := by
      have := hw' s.data.toList.length (by simp [DataW.weightsEach, DataW.weights])
      simp [reachBytes] at this
      have e : s.size = s.data.size := rfl
      omega
    rcases DataW.trod_slice Tryz.underlying25 h3 with ⟨e3, rfl⟩ | ⟨a, len, cap, elems, rest, n1, rfl, e3, rfl, hb1, hlc, hcm, hel2, hels, _, _⟩
    · simp only [List.cons.injEq, and_true] at e3
      subst e3
      exact ⟨.mk k nn s [], ⟨hs, by simp, none, 0, rfl, by simp⟩, hb, trivial⟩
    · simp only [List.cons.injEq, and_true] at e3
      subst e3
      have hwl : ∀ z ∈ (len + rest.length) * 56 :: DataW.weightsAll Tryz.prog 27 (elems.map (·.1)), z ≤ reachBytes := by
        intro z hz
        refine hw' z ?_
        simp only [DataW.weightsEach, DataW.weights, Tryz.underlying25, bytes24, List.length_map, List.append_nil, List.nil_append, List.mem_append, List.mem_cons, hel2] at hz ⊢
        rcases hz with hz | hz
        · exact .inr (.inl hz)
        · exact .inr (.inr (.inl hz))
      have hln : len ≤ 4398046511104 := by
        have := hwl ((len + rest.length) * 56) (by simp)
        simp only [reachBytes] at this
        omega
      have hea : ∀ i, i < len → ∃ p : PT, (W.cells? 0 (a.add (i * 4)) 4 ≠ none ∧ ∀ cs, W.cells? 0 (a.add (i * 4)) 4 = some cs → CsP W p cs) ∧ okP p := by
        intro i hi
        have h4 := hels i hi
        rw [cells24] at h4
        have hi' : i < elems.length := by omega
        rw [List.getElem?_eq_getElem hi'] at h4
        cases hc : W.cells? 0 (a.add (i * 4)) 4 with
        | none => rw [hc] at h4; simp at h4
        | some cs =>
          rw [hc] at h4
          simp only [Option.bind_some] at h4
          obtain ⟨p, hp1, hp2⟩ := open_pt m (by omega) h4 (fun z hz => hwl z (List.mem_cons_of_mem _ (weights_mem_all (List.mem_map_of_mem (List.getElem_mem hi')) hz)))
          exact ⟨p, ⟨by simp, fun cs' h => by obtain rfl := Option.some.inj h; exact hp1⟩, hp2⟩
      obtain ⟨l, hl, hq⟩ := choose_list len hea
      refine ⟨.mk k nn s l, ⟨hs, by omega, some a, cap, by rw [hl], fun hne => ?_⟩, hb, okPs_of l fun i hi => (hq i hi).2⟩
      have hpos : 0 < l.length := List.length_pos_iff.2 hne
      obtain ⟨⟨hsome, _⟩, _⟩ := hq 0 hpos
      have hsp : a.spot = none := by
        cases hc : W.cells? 0 (a.add (0 * 4)) 4 with
        | none => exact absurd hc hsome
        | some cs =>
          unfold World.cells? at hc
          rw [if_pos (Nat.zero_le _)] at hc
          simp only [show List.range 4 = [0, 1, 2, 3] from by decide, List.mapM_cons, Option.bind_eq_bind, Option.bind_eq_some_iff] at hc
          obtain ⟨c0, h0, _⟩ := hc
          have : (a.add (0 * 4)).add 0 = a := by simp [Addr.add]
          rw [this] at h0
          exact World.cell?_spot h0
      obtain ⟨b', o', sp⟩ := a
      obtain rfl : sp = none := hsp
      refine ⟨b', o', rfl, inPs_of l o' fun i hi => ?_⟩
      obtain ⟨⟨hsome, hcs⟩, _⟩ := hq i hi
      have ea : (⟨b', o', none⟩ : Addr).add (i * 4) = ⟨b', o' + 4 * i, none⟩ := by rw [Go.WideShapes.add_plain, Nat.mul_comm]
      rw [ea] at hsome hcs
      cases hc : W.cells? 0 ⟨b', o' + 4 * i, none⟩ 4 with
      | none => exact absurd hc hsome
      | some cs => exact inP_of hc (hcs cs hc)
end
end

section
open Go.RowKit
set_option maxRecDepth 100000
mutual
def sizeV : VT → Nat
  | .unit => 1
  | .truth _ => 1
  | .int _ => 1
  | .text s => 1 + s.size
  | .list l => 1 + sizeVs l
def sizeVs : List VT → Nat
  | [] => 0
  | t :: r => sizeV t + sizeVs r
end
mutual
def depW : VT → Nat
  | .list l => 1 + depWs l
  | .unit => 0
  | .truth _ => 0
  | .int _ => 0
  | .text _ => 0
def depWs : List VT → Nat
  | [] => 0
  | t :: r => max (depW t) (depWs r)
end
theorem quote_ge : ∀ x : List UInt8, x.length ≤ (quoteL x).length
  | [] => Nat.le_refl _
  | c :: r => by
    have := quote_ge r
    have h1 : 1 ≤ (quoteB c).length := by unfold quoteB; split; simp; split <;> simp
    rw [quote_cons, List.length_append, List.length_cons]; omega
theorem encR_eq (l : List VT) (h : l ≠ []) : encR l = [44, 32] ++ encL l := by
  cases l with
  | nil => exact absurd rfl h
  | cons t r => simp [encR, encL]
theorem c_eq {c : UInt8} {n : Nat} (h : c.toNat = n) (hn : n < 256) : c = UInt8.ofNat n := UInt8.toNat_inj.1 (by rw [h, UInt8.toNat_ofNat']; omega)
mutual
theorem val_bwd {s : ByteArray} : ∀ (k a z deep : Nat) (t : VT) (a' z' : Nat), deep ≤ 64 → valR s k a z deep = .ok (t, a', z') →
    s.data.toList.drop a = enc t ++ s.data.toList.drop a' ∧ z' = z + sizeV t ∧ deep + depW t ≤ 64 ∧ okV t
  | 0, a, z, deep, t, a', z', hd, h => by simp [valR] at h
  | k + 1, a, z, deep, t, a', z', hd, h => by
    simp only [valR] at h
    have hnum : numR s a (z + 1) = .ok (t, a', z') → s.data.toList.drop a = enc t ++ s.data.toList.drop a' ∧ z' = z + sizeV t ∧ deep + depW t ≤ 64 ∧ okV t := by
      intro hn
      obtain ⟨n, rfl, h1, h2, h3⟩ := num_bwd hn
      exact ⟨h2, h3, by simp [depW]; omega, h1⟩
    have hw : ∀ (t0 : VT) (l : List UInt8), enc t0 = l → sizeV t0 = 1 → depW t0 = 0 → okV t0 → wordV t0 (z + 1) (wordR s.data.toList l a) = .ok (t, a', z') →
        s.data.toList.drop a = enc t ++ s.data.toList.drop a' ∧ z' = z + sizeV t ∧ deep + depW t ≤ 64 ∧ okV t := by
      intro t0 l e1 e2 e3 e4 hv
      cases hr : wordR s.data.toList l a with
      | error p => rw [hr] at hv; cases hv
      | ok q =>
        rw [hr] at hv
        simp only [wordV, Except.ok.injEq, Prod.mk.injEq] at hv
        obtain ⟨rfl, rfl, rfl⟩ := hv
        exact ⟨by rw [e1]; exact word_bwd l a q hr, by rw [e2], by rw [e3]; omega, e4⟩
    split at h
    · exact hnum h
    · rename_i c hc
      split at h
      · exact hw .unit _ rfl rfl rfl trivial h
      · split at h
        · exact hw (.truth true) _ (by simp [enc]) rfl rfl trivial h
        · split at h
          · exact hw (.truth false) _ (by simp [enc]) rfl rfl trivial h
          · split at h
            · rename_i h34
              have ec : c = 34 := c_eq (n := 34) h34 (by decide)
              subst ec
              cases hr : textF s.data.toList (s.size + 1) (a + 1) [] with
              | error p => rw [hr] at h; cases h
              | ok q =>
                obtain ⟨acc, q⟩ := q
                rw [hr] at h
                simp only [textV, Except.ok.injEq, Prod.mk.injEq] at h
                obtain ⟨rfl, rfl, rfl⟩ := h
                obtain ⟨x, e1, e2⟩ := text_bwd _ _ _ _ _ hr
                rw [List.nil_append] at e1
                subst e1
                refine ⟨?_, ?_, by simp [depW]; omega, trivial⟩
                · rw [drop_cons hc, e2]; simp [enc]
                · have : (⟨acc.toArray⟩ : ByteArray).size = acc.length := by show acc.toArray.size = _; simp
                  simp only [sizeV]; omega
            · split at h
              · rename_i h91
                have ec : c = 91 := c_eq (n := 91) h91 (by decide)
                subst ec
                obtain ⟨b1, b2, b3, b4⟩ := list_bwd k a (z + 1) deep t a' z' hd hc h
                exact ⟨b1, by omega, b3, b4⟩
              · exact hnum h
theorem list_bwd {s : ByteArray} : ∀ (k a z deep : Nat) (t : VT) (a' z' : Nat), deep ≤ 64 → s.data.toList[a]? = some 91 → listR s k a z deep = .ok (t, a', z') →
    s.data.toList.drop a = enc t ++ s.data.toList.drop a' ∧ z' + 1 = z + sizeV t ∧ deep + depW t ≤ 64 ∧ okV t
  | 0, a, z, deep, t, a', z', hd, hc, h => by simp [listR] at h
  | k + 1, a, z, deep, t, a', z', hd, hc, h => by
    simp only [listR] at h
    split at h
    · cases h
    · split at h
      · rename_i hc1
        simp only [Except.ok.injEq, Prod.mk.injEq] at h
        obtain ⟨rfl, rfl, rfl⟩ := h
        refine ⟨by rw [drop_cons hc, drop_cons hc1]; simp [enc, encL], by simp [sizeV, sizeVs], by simp [depW, depWs]; omega, by simp [okV, okVs]⟩
      · rename_i hne _
        obtain ⟨l, h1, rfl, h2, h3, h4, h5⟩ := elems_bwd k (a + 1) z deep [] t a' z' (by omega) h
        rw [List.nil_append]
        refine ⟨by rw [drop_cons hc, h2]; simp [enc], by simp only [sizeV]; omega, by simp only [depW]; omega, by simp only [okV]; exact h5⟩
theorem elems_bwd {s : ByteArray} : ∀ (k a z deep : Nat) (acc : List VT) (t : VT) (a' z' : Nat), deep < 64 → elemsR s k a z deep acc = .ok (t, a', z') →
    ∃ l, l ≠ [] ∧ t = .list (acc ++ l) ∧ s.data.toList.drop a = encL l ++ [93] ++ s.data.toList.drop a' ∧ z' = z + sizeVs l ∧ deep + 1 + depWs l ≤ 64 ∧ okVs l
  | 0, a, z, deep, acc, t, a', z', hd, h => by simp [elemsR] at h
  | k + 1, a, z, deep, acc, t, a', z', hd, h => by
    simp only [elemsR] at h
    split at h
    · cases h
    · rename_i t0 a0 z0 hv
      obtain ⟨v1, v2, v3, v4⟩ := val_bwd k a z (deep + 1) t0 a0 z0 (by omega) hv
      split at h
      · rename_i hc
        simp only [Except.ok.injEq, Prod.mk.injEq] at h
        obtain ⟨rfl, rfl, rfl⟩ := h
        exact ⟨[t0], by simp, rfl, by rw [v1, drop_cons hc]; simp [encL, encR], by simp [sizeVs, v2], by simp only [depWs]; omega, v4, trivial⟩
      · split at h
        · split at h
          · cases h
          · rename_i q hq
            obtain ⟨l, h1, rfl, h2, h3, h4, h5⟩ := elems_bwd k q z0 deep _ t a' z' hd h
            refine ⟨t0 :: l, by simp, by simp, ?_, by simp only [sizeVs]; omega, by simp only [depWs]; omega, v4, h5⟩
            rw [v1, word_bwd _ _ _ hq, h2]
            simp [encL, encR_eq l h1]
        · cases h
end
mutual
def fuelV : VT → Nat
  | .list l => 2 + fuelEs l
  | .unit => 1
  | .truth _ => 1
  | .int _ => 1
  | .text _ => 1
def fuelEs : List VT → Nat
  | [] => 0
  | t :: r => 1 + max (fuelV t) (fuelEs r)
end
theorem itoa_head (n : Int) : ∃ c r, Lib.itoa n = c :: r ∧ (c.toNat = 45 ∨ (48 ≤ c.toNat ∧ c.toNat ≤ 57)) := by
  unfold Lib.itoa
  split
  · exact ⟨45, _, rfl, .inl (by decide)⟩
  · have hd := decDigits_dig (n.toNat + 1) n.toNat (by omega)
    by_cases h0 : n.toNat = 0
    · rw [h0, Lib.decDigits_one (by omega)]
      exact ⟨_, [], rfl, .inr (by decide)⟩
    · obtain ⟨c, r, e, h1, h2⟩ := decDigits_head (n.toNat + 1) n.toNat (by omega) (by omega)
      exact ⟨c, r, e, .inr ⟨by omega, h2⟩⟩
theorem enc_head (t : VT) : ∃ c r, enc t = c :: r ∧ c ≠ 93 := by
  cases t with
  | unit => exact ⟨117, _, rfl, by decide⟩
  | truth b => cases b; exact ⟨110, _, rfl, by decide⟩; exact ⟨121, _, rfl, by decide⟩
  | int n =>
    obtain ⟨c, r, e, h⟩ := itoa_head n
    refine ⟨c, r, e, fun h1 => ?_⟩
    subst h1
    have : (93 : UInt8).toNat = 93 := by decide
    omega
  | text s => exact ⟨34, _, rfl, by decide⟩
  | list l => exact ⟨91, _, rfl, by decide⟩
mutual
theorem val_fwd {s : ByteArray} : ∀ (t : VT) (k a z deep : Nat) (r : List UInt8), fuelV t ≤ k → okV t → deep + depW t ≤ 64 → EndOK r → s.data.toList.drop a = enc t ++ r →
    valR s k a z deep = .ok (t, a + (enc t).length, z + sizeV t)
  | .unit, 0, a, z, deep, r, hk, ho, hd, hr, h => by simp [fuelV] at hk
  | .truth _, 0, a, z, deep, r, hk, ho, hd, hr, h => by simp [fuelV] at hk
  | .int _, 0, a, z, deep, r, hk, ho, hd, hr, h => by simp [fuelV] at hk
  | .text _, 0, a, z, deep, r, hk, ho, hd, hr, h => by simp [fuelV] at hk
  | .list _, 0, a, z, deep, r, hk, ho, hd, hr, h => by simp [fuelV] at hk
  | .unit, k + 1, a, z, deep, r, hk, ho, hd, hr, h => by
    have hw := word_fwd [117, 110, 105, 116] r a h
    obtain ⟨c1, _⟩ := at_drop (show s.data.toList.drop a = 117 :: ([110, 105, 116] ++ r) from h)
    rw [valR, c1]
    simp only
    rw [if_pos (by decide), hw]; rfl
  | .truth true, k + 1, a, z, deep, r, hk, ho, hd, hr, h => by
    have h : s.data.toList.drop a = [121, 101, 115] ++ r := h
    have hw := word_fwd [121, 101, 115] r a h
    obtain ⟨c1, _⟩ := at_drop (show s.data.toList.drop a = 121 :: ([101, 115] ++ r) from h)
    rw [valR, c1]
    simp only
    rw [if_neg (by decide), if_pos (by decide), hw]; rfl
  | .truth false, k + 1, a, z, deep, r, hk, ho, hd, hr, h => by
    have h : s.data.toList.drop a = [110, 111] ++ r := h
    have hw := word_fwd [110, 111] r a h
    obtain ⟨c1, _⟩ := at_drop (show s.data.toList.drop a = 110 :: ([111] ++ r) from h)
    rw [valR, c1]
    simp only
    rw [if_neg (by decide), if_neg (by decide), if_pos (by decide), hw]; rfl
  | .int n, k + 1, a, z, deep, r, hk, ho, hd, hr, h => by
    have hn := num_fwd (z := z + 1) ho hr h
    obtain ⟨c, q, e, hc⟩ := itoa_head n
    have h' : s.data.toList.drop a = Lib.itoa n ++ r := h
    rw [e] at h'
    obtain ⟨c1, _⟩ := at_drop (show s.data.toList.drop a = c :: (q ++ r) from h')
    rw [valR, c1]
    simp only
    rw [if_neg (by omega), if_neg (by omega), if_neg (by omega), if_neg (by omega), if_neg (by omega), hn]; rfl
  | .text x, k + 1, a, z, deep, r, hk, ho, hd, hr, h => by
    have h : s.data.toList.drop a = [34] ++ quoteL x.data.toList ++ [34] ++ r := h
    obtain ⟨c1, c2⟩ := at_drop (show s.data.toList.drop a = 34 :: (quoteL x.data.toList ++ [34] ++ r) from by simpa using h)
    have hlen : x.data.toList.length < s.size + 1 := by
      have h1 := drop_len (L := s.data.toList) (a := a + 1) (x := quoteL x.data.toList) (r := [34] ++ r) (by rw [c2, List.append_assoc])
      have h2 : x.data.toList.length ≤ (quoteL x.data.toList).length := quote_ge _
      have h3 : s.data.toList.length = s.size := by simp
      omega
    have ht := text_fwd x.data.toList (s.size + 1) (a + 1) [] r hlen c2
    rw [valR, c1]
    simp only
    rw [if_neg (by decide), if_neg (by decide), if_neg (by decide), if_pos (by decide), ht]
    simp only [textV, List.nil_append, Array.toArray_toList, enc, sizeV, Except.ok.injEq, Prod.mk.injEq, true_and]
    refine ⟨by simp; omega, by simp; omega⟩
  | .list l, k + 1, a, z, deep, r, hk, ho, hd, hr, h => by
    have h : s.data.toList.drop a = [91] ++ encL l ++ [93] ++ r := h
    obtain ⟨c1, c2⟩ := at_drop (show s.data.toList.drop a = 91 :: (encL l ++ [93] ++ r) from by simpa using h)
    rw [valR, c1]
    simp only
    rw [if_neg (by decide), if_neg (by decide), if_neg (by decide), if_neg (by decide), if_pos (by decide)]
    have hk' : 1 + fuelEs l ≤ k := by simp only [fuelV] at hk; omega
    have hd' : deep + (1 + depWs l) ≤ 64 := hd
    obtain ⟨k, rfl⟩ : ∃ m, k = m + 1 := ⟨k - 1, by omega⟩
    rw [listR, if_neg (by omega)]
    by_cases hl : l = []
    · subst hl
      obtain ⟨d1, _⟩ := at_drop (show s.data.toList.drop (a + 1) = 93 :: r from c2)
      rw [if_pos d1]
      simp [enc, encL, sizeV, sizeVs]
    · have he := elems_fwd l k (a + 1) (z + 1) deep [] r hl (by omega) ho (by omega) c2
      have hne : ¬ (s.data.toList[a + 1]? = some 93) := by
        obtain ⟨t, q, rfl⟩ := List.exists_cons_of_ne_nil hl
        obtain ⟨c, y, e, hc⟩ := enc_head t
        have : s.data.toList.drop (a + 1) = c :: (y ++ encR q ++ [93] ++ r) := by rw [c2, encL, e]; simp
        rw [(at_drop this).1]
        simp [hc]
      rw [if_neg hne, he]
      simp only [List.nil_append, enc, sizeV, Except.ok.injEq, Prod.mk.injEq, true_and]
      refine ⟨by simp; omega, by omega⟩
theorem elems_fwd {s : ByteArray} : ∀ (l : List VT) (k a z deep : Nat) (acc : List VT) (r : List UInt8), l ≠ [] → fuelEs l ≤ k → okVs l → deep + 1 + depWs l ≤ 64 → s.data.toList.drop a = encL l ++ [93] ++ r →
    elemsR s k a z deep acc = .ok (.list (acc ++ l), a + (encL l).length + 1, z + sizeVs l)
  | [], k, a, z, deep, acc, r, hl, hk, ho, hd, h => absurd rfl hl
  | t :: q, 0, a, z, deep, acc, r, hl, hk, ho, hd, h => by simp only [fuelEs] at hk; omega
  | t :: q, k + 1, a, z, deep, acc, r, hl, hk, ho, hd, h => by
    simp only [fuelEs, depWs] at hk hd
    obtain ⟨ho1, ho2⟩ := ho
    by_cases hq : q = []
    · subst hq
      have h1 : s.data.toList.drop a = enc t ++ (93 :: r) := by rw [h]; simp [encL, encR]
      have hv := val_fwd t k a z (deep + 1) (93 :: r) (by omega) ho1 (by omega) (fun c r' e => by
        simp only [List.cons.injEq] at e
        rw [← e.1]; unfold IsDig; decide) h1
      have h2 := (at_drop (drop_app h1)).1
      rw [elemsR, hv]
      simp only
      rw [if_pos h2]
      simp [encL, encR, sizeVs]
    · have h1 : s.data.toList.drop a = enc t ++ (44 :: (32 :: (encL q ++ [93] ++ r))) := by rw [h]; simp [encL, encR_eq q hq]
      have hv := val_fwd t k a z (deep + 1) (44 :: (32 :: (encL q ++ [93] ++ r))) (by omega) ho1 (by omega) (fun c r' e => by
        simp only [List.cons.injEq] at e
        rw [← e.1]; unfold IsDig; decide) h1
      have h2 := drop_app h1
      have h3 := (at_drop h2).1
      have hw := word_fwd [44, 32] (encL q ++ [93] ++ r) _ h2
      have h4 := drop_app (x := [44, 32]) (r := encL q ++ [93] ++ r) h2
      have he := elems_fwd q k (a + (enc t).length + 2) (z + sizeV t) deep (acc ++ [t]) r hq (by omega) ho2 (by omega) h4
      rw [elemsR, hv]
      simp only
      rw [if_neg (by rw [h3]; decide), if_pos h3, hw]
      simp only
      rw [show ([44, 32] : List UInt8).length = 2 from rfl, he]
      simp only [List.append_assoc, List.cons_append, List.nil_append, Except.ok.injEq, Prod.mk.injEq, true_and, encL, encR_eq q hq, sizeVs]
      refine ⟨by simp; omega, by omega⟩
end
end

section
open Go.RowKit
theorem ordI_anti (a b : Int) : ordI b a = - ordI a b := by
  rcases Int.lt_trichotomy a b with h | h | h
  · rw [ordI_lt h, ordI_gt h]; rfl
  · rw [ordI_eq h, ordI_eq h.symm]; rfl
  · rw [ordI_lt h, ordI_gt h]
theorem ordI_bd (a b : Int) : -1 ≤ ordI a b ∧ ordI a b ≤ 1 := by unfold ordI; split <;> (try split) <;> omega
theorem ordI_zero {a b : Int} : ordI a b = 0 ↔ a = b := by
  constructor
  · intro h; unfold ordI at h; split at h <;> (try split at h) <;> omega
  · exact ordI_eq
theorem ordI_tr {a b c : Int} (h1 : ordI a b ≤ 0) (h2 : ordI b c ≤ 0) : ordI a c ≤ 0 ∧ (ordI a c = 0 ↔ ordI a b = 0 ∧ ordI b c = 0) := by
  have e1 : a ≤ b := by unfold ordI at h1; split at h1 <;> (try split at h1) <;> omega
  have e2 : b ≤ c := by unfold ordI at h2; split at h2 <;> (try split at h2) <;> omega
  rw [ordI_zero, ordI_zero, ordI_zero]
  refine ⟨?_, by omega⟩
  unfold ordI; split <;> (try split) <;> omega
/-! bytes -/
theorem less_irr : ∀ a : List UInt8, Op.bytesLess a a = false
  | [] => rfl
  | x :: r => by simp [Op.bytesLess, less_irr r]
theorem less_tri : ∀ a b : List UInt8, Op.bytesLess a b = true ∨ a = b ∨ Op.bytesLess b a = true
  | [], [] => .inr (.inl rfl)
  | [], _ :: _ => .inl rfl
  | _ :: _, [] => .inr (.inr rfl)
  | x :: r, y :: q => by
    simp only [Op.bytesLess, Bool.or_eq_true, decide_eq_true_eq, Bool.and_eq_true, beq_iff_eq, List.cons.injEq]
    rcases less_tri r q with h | h | h
    all_goals rcases Nat.lt_trichotomy x.toNat y.toNat with h' | h' | h'
    all_goals first
      | (left; left; exact UInt8.lt_iff_toNat_lt.2 h')
      | (right; right; left; exact UInt8.lt_iff_toNat_lt.2 h')
      | (have e : x = y := UInt8.toNat_inj.1 h'; subst e; first | exact .inl (.inr ⟨rfl, h⟩) | exact .inr (.inl ⟨rfl, h⟩) | exact .inr (.inr (.inr ⟨rfl, h⟩)))
theorem less_asym : ∀ a b : List UInt8, Op.bytesLess a b = true → Op.bytesLess b a = false
  | [], [], h => rfl
  | [], _ :: _, h => rfl
  | _ :: _, [], h => by simp [Op.bytesLess] at h
  | x :: r, y :: q, h => by
    simp only [Op.bytesLess, Bool.or_eq_true, decide_eq_true_eq, Bool.and_eq_true, beq_iff_eq] at h
    rcases h with h | ⟨rfl, h⟩
    · have h1 : ¬ y < x := by rw [UInt8.lt_iff_toNat_lt] at *; omega
      have h2 : ¬ y = x := fun e => by subst e; rw [UInt8.lt_iff_toNat_lt] at h; omega
      simp [Op.bytesLess, h1, h2]
    · have h1 : ¬ x < x := by rw [UInt8.lt_iff_toNat_lt]; omega
      simp [Op.bytesLess, h1, less_asym r q h]
theorem less_trans : ∀ a b c : List UInt8, Op.bytesLess a b = true → Op.bytesLess b c = true → Op.bytesLess a c = true
  | _, _, [], _, h => by simp [Op.bytesLess] at h
  | _, [], _ :: _, h, _ => by simp [Op.bytesLess] at h
  | [], _ :: _, _ :: _, _, _ => rfl
  | x :: r, y :: q, z :: p, h, h' => by
    simp only [Op.bytesLess, Bool.or_eq_true, decide_eq_true_eq, Bool.and_eq_true, beq_iff_eq] at h h' ⊢
    rcases h with h | ⟨rfl, h⟩ <;> rcases h' with h' | ⟨rfl, h'⟩
    · left; rw [UInt8.lt_iff_toNat_lt] at *; omega
    · exact .inl h
    · exact .inl h'
    · exact .inr ⟨rfl, less_trans r q p h h'⟩
theorem beq_list {a b : ByteArray} : (a.toList == b.toList) = true ↔ a.toList = b.toList := beq_iff_eq
theorem ordS_cases (a b : ByteArray) : (ordS a b = -1 ∧ Op.bytesLess a.toList b.toList = true) ∨ (ordS a b = 0 ∧ a.toList = b.toList) ∨ (ordS a b = 1 ∧ Op.bytesLess b.toList a.toList = true) := by
  unfold ordS
  rcases less_tri a.toList b.toList with h | h | h
  · left; rw [if_pos h]; exact ⟨rfl, h⟩
  · right; left
    rw [h, less_irr]
    simp
  · right; right
    have h1 := less_asym _ _ h
    have h2 : (a.toList == b.toList) = false := by
      cases hb : (a.toList == b.toList) with
      | false => rfl
      | true => rw [beq_list] at hb; rw [hb, less_irr] at h; cases h
    rw [h1, h2]
    simp [h]
theorem ordS_lt {a b : ByteArray} (h : Op.bytesLess a.toList b.toList = true) : ordS a b = -1 := if_pos h
theorem ordS_eq {a b : ByteArray} (h : a.toList = b.toList) : ordS a b = 0 := by unfold ordS; rw [h, less_irr]; simp
theorem ordS_gt {a b : ByteArray} (h : Op.bytesLess b.toList a.toList = true) : ordS a b = 1 := by
  rcases ordS_cases a b with ⟨_, h1⟩ | ⟨_, h1⟩ | ⟨h0, _⟩
  · rw [less_asym _ _ h1] at h; cases h
  · rw [h1, less_irr] at h; cases h
  · exact h0
theorem ordS_anti (a b : ByteArray) : ordS b a = - ordS a b := by
  rcases ordS_cases a b with ⟨h0, h1⟩ | ⟨h0, h1⟩ | ⟨h0, h1⟩
  · rw [h0, ordS_gt h1]; rfl
  · rw [h0, ordS_eq h1.symm]; rfl
  · rw [h0, ordS_lt h1]
theorem ordS_bd (a b : ByteArray) : -1 ≤ ordS a b ∧ ordS a b ≤ 1 := by rcases ordS_cases a b with ⟨h, _⟩ | ⟨h, _⟩ | ⟨h, _⟩ <;> rw [h] <;> decide
theorem ordS_tr {a b c : ByteArray} (h1 : ordS a b ≤ 0) (h2 : ordS b c ≤ 0) : ordS a c ≤ 0 ∧ (ordS a c = 0 ↔ ordS a b = 0 ∧ ordS b c = 0) := by
  rcases ordS_cases a b with ⟨h0, h3⟩ | ⟨h0, h3⟩ | ⟨h0, h3⟩
  · rcases ordS_cases b c with ⟨h0', h4⟩ | ⟨h0', h4⟩ | ⟨h0', h4⟩
    · rw [ordS_lt (less_trans _ _ _ h3 h4), h0]; omega
    · rw [h4] at h3; rw [ordS_lt h3, h0]; omega
    · omega
  · rcases ordS_cases b c with ⟨h0', h4⟩ | ⟨h0', h4⟩ | ⟨h0', h4⟩
    · rw [← h3] at h4; rw [ordS_lt h4, h0']; simp
    · rw [ordS_eq (h3.trans h4), h0, h0']; simp
    · omega
  · omega
/-! values -/
mutual
theorem cmpV_anti : ∀ a b : VT, cmpV b a = - cmpV a b
  | .unit, b => by cases b <;> exact ordI_anti _ _
  | .truth p, b => by cases b <;> exact ordI_anti _ _
  | .int p, b => by cases b <;> exact ordI_anti _ _
  | .text p, b => by cases b <;> first | exact ordS_anti _ _ | exact ordI_anti _ _
  | .list p, b => by cases b <;> first | exact cmpL_anti _ _ | exact ordI_anti _ _
theorem cmpL_anti : ∀ a b : List VT, cmpL b a = - cmpL a b
  | [], [] => rfl
  | [], _ :: _ => rfl
  | _ :: _, [] => rfl
  | x :: r, y :: q => by
    have h1 := cmpV_anti x y
    have h2 := cmpL_anti r q
    simp only [cmpL]
    by_cases h : cmpV x y = 0
    · rw [if_neg (by rw [h1, h]; decide), if_neg (by rw [h]; decide), h2]
    · rw [if_pos (by rw [h1]; omega), if_pos h, h1]
end
mutual
theorem cmpV_bd : ∀ a b : VT, -1 ≤ cmpV a b ∧ cmpV a b ≤ 1
  | .unit, b => by cases b <;> exact ordI_bd _ _
  | .truth p, b => by cases b <;> exact ordI_bd _ _
  | .int p, b => by cases b <;> exact ordI_bd _ _
  | .text p, b => by cases b <;> first | exact ordS_bd _ _ | exact ordI_bd _ _
  | .list p, b => by cases b <;> first | exact cmpL_bd _ _ | exact ordI_bd _ _
theorem cmpL_bd : ∀ a b : List VT, -1 ≤ cmpL a b ∧ cmpL a b ≤ 1
  | [], [] => by simp [cmpL]
  | [], _ :: _ => by simp [cmpL]
  | _ :: _, [] => by simp [cmpL]
  | x :: r, y :: q => by
    simp only [cmpL]
    split
    · exact cmpV_bd x y
    · exact cmpL_bd r q
end
theorem rank_tr {a b c : Int} {x y z : Int} (hx : a ≠ b → x = ordI a b) (hy : b ≠ c → y = ordI b c) (hz : a ≠ c → z = ordI a c) (h1 : x ≤ 0) (h2 : y ≤ 0)
    (same : a = b → b = c → z ≤ 0 ∧ (z = 0 ↔ x = 0 ∧ y = 0)) : z ≤ 0 ∧ (z = 0 ↔ x = 0 ∧ y = 0) := by
  by_cases e1 : a = b
  · by_cases e2 : b = c
    · exact same e1 e2
    · have h3 := hy e2
      have h4 : b < c := by
        rcases Int.lt_or_gt_of_ne e2 with h | h
        · exact h
        · rw [ordI_gt h] at h3; omega
      rw [ordI_lt h4] at h3
      have h5 := hz (by omega)
      rw [ordI_lt (by omega)] at h5
      omega
  · have h3 := hx e1
    have h4 : a < b := by
      rcases Int.lt_or_gt_of_ne e1 with h | h
      · exact h
      · rw [ordI_gt h] at h3; omega
    rw [ordI_lt h4] at h3
    by_cases e2 : b = c
    · have h5 := hz (by omega)
      rw [ordI_lt (by omega)] at h5
      omega
    · have h6 := hy e2
      have h7 : b < c := by
        rcases Int.lt_or_gt_of_ne e2 with h | h
        · exact h
        · rw [ordI_gt h] at h6; omega
      have h5 := hz (by omega)
      rw [ordI_lt (by omega)] at h5
      omega
mutual
theorem cmpV_tr : ∀ a b c : VT, cmpV a b ≤ 0 → cmpV b c ≤ 0 → cmpV a c ≤ 0 ∧ (cmpV a c = 0 ↔ cmpV a b = 0 ∧ cmpV b c = 0)
  | a, b, c => by
    intro h1 h2
    refine rank_tr (a := rankV a) (b := rankV b) (c := rankV c) cmpV_rank cmpV_rank cmpV_rank h1 h2 fun e1 e2 => ?_
    cases a with
    | list p =>
      cases b with
      | list q =>
        cases c with
        | list r => exact cmpL_tr p q r h1 h2
        | _ => simp [rankV] at e2
      | _ => simp [rankV] at e1
    | unit => 
      cases b <;> simp [rankV] at e1
      cases c <;> simp [rankV] at e2
      exact ordI_tr h1 h2
    | truth p => 
      cases b <;> simp [rankV] at e1
      cases c <;> simp [rankV] at e2
      exact ordI_tr h1 h2
    | int p => 
      cases b <;> simp [rankV] at e1
      cases c <;> simp [rankV] at e2
      exact ordI_tr h1 h2
    | text p => 
      cases b <;> simp [rankV] at e1
      cases c <;> simp [rankV] at e2
      exact ordS_tr h1 h2
theorem cmpL_tr : ∀ a b c : List VT, cmpL a b ≤ 0 → cmpL b c ≤ 0 → cmpL a c ≤ 0 ∧ (cmpL a c = 0 ↔ cmpL a b = 0 ∧ cmpL b c = 0)
  | [], [], [] => by simp [cmpL]
  | [], [], _ :: _ => by simp [cmpL]
  | [], _ :: _, [] => by simp [cmpL]
  | [], _ :: _, _ :: _ => by simp [cmpL]
  | _ :: _, [], _ => by simp [cmpL]
  | _ :: _, _ :: _, [] => by simp [cmpL]
  | x :: r, y :: q, z :: p => by
    have ih1 := cmpV_tr x y z
    have ih2 := cmpL_tr r q p
    simp only [cmpL]
    by_cases e1 : cmpV x y = 0
    · by_cases e2 : cmpV y z = 0
      · have h3 := (ih1 (by omega) (by omega)).2.2 ⟨e1, e2⟩
        rw [if_neg (by simp [e1]), if_neg (by simp [e2]), if_neg (by simp [h3])]
        exact ih2
      · rw [if_neg (by simp [e1]), if_pos e2]
        intro h1 h2
        obtain ⟨h3, h4⟩ := ih1 (by omega) h2
        have h5 : cmpV x z ≠ 0 := fun h => e2 (h4.1 h).2
        rw [if_pos h5]
        omega
    · rw [if_pos e1]
      by_cases e2 : cmpV y z = 0
      · rw [if_neg (by simp [e2])]
        intro h1 h2
        obtain ⟨h3, h4⟩ := ih1 h1 (by omega)
        have h5 : cmpV x z ≠ 0 := fun h => e1 (h4.1 h).1
        rw [if_pos h5]
        omega
      · rw [if_pos e2]
        intro h1 h2
        obtain ⟨h3, h4⟩ := ih1 h1 h2
        have h5 : cmpV x z ≠ 0 := fun h => e1 (h4.1 h).1
        rw [if_pos h5]
        omega
end
theorem F1 (p q : PT) : compP q p = - compP p q := by
  unfold compP
  cases mayP p <;> cases mayP q <;> simp
  exact cmpV_anti _ _
theorem F2 (p q : PT) : -1 ≤ compP p q ∧ compP p q ≤ 1 := by
  unfold compP
  cases mayP p <;> cases mayP q <;> simp
  exact cmpV_bd _ _
theorem F3 (p q : PT) : compP p q = 0 ↔ (sameP p q = true ∨ (mayP p = false ∧ mayP q = false)) := by
  unfold compP sameP
  cases mayP p <;> cases mayP q <;> simp
theorem F4 (p q r : PT) : compP p q ≤ 0 → compP q r ≤ 0 → compP p r ≤ 0 ∧ (compP p r = 0 ↔ compP p q = 0 ∧ compP q r = 0) := by
  have h := cmpV_tr (valOf p) (valOf q) (valOf r)
  have h1 := cmpV_bd (valOf p) (valOf q)
  unfold compP
  cases mayP p <;> cases mayP q <;> cases mayP r <;> simp
  exact h
end

section
open Go.RowKit
set_option maxRecDepth 100000
mutual
theorem fuel_le : ∀ t : VT, fuelV t ≤ 3 * (enc t).length
  | .unit => by simp [fuelV, enc]
  | .truth b => by cases b <;> simp [fuelV, enc]
  | .int n => by
    obtain ⟨c, r, e, _⟩ := itoa_head n
    simp only [fuelV, enc, e, List.length_cons]; omega
  | .text s => by simp only [fuelV, enc, List.length_append, List.length_cons]; omega
  | .list l => by
    have := fuels_le l
    simp only [fuelV, enc, List.length_append, List.length_cons, List.length_nil]; omega
theorem fuels_le : ∀ l : List VT, fuelEs l ≤ 3 * (encL l).length + 1
  | [] => by simp [fuelEs]
  | t :: q => by
    have h1 := fuel_le t
    have h2 := fuels_le q
    simp only [fuelEs, encL, List.length_append]
    by_cases hq : q = []
    · subst hq
      simp only [fuelEs]; omega
    · rw [encR_eq q hq]
      simp only [List.length_append, List.length_cons, List.length_nil]; omega
end
theorem read_enc {s : ByteArray} {t : VT} (hs : s.data.toList = enc t) (ho : okV t) (hz : sizeV t ≤ 65536) (hd : depW t ≤ 64) : readR s = .ok t := by
  have hsz : s.size = (enc t).length := by rw [← hs]; simp
  have h := val_fwd (s := s) t (3 * s.size + 3) 0 0 0 [] (by have := fuel_le t; omega) ho (by omega) (fun c r e => by simp at e) (by rw [List.drop_zero, hs, List.append_nil])
  unfold readR
  rw [h]
  simp only
  rw [if_neg (by omega), if_neg (by omega)]
theorem read_back {s : ByteArray} {t : VT} (h : readR s = .ok t) : enc t = s.data.toList ∧ sizeV t ≤ 65536 ∧ depW t ≤ 64 ∧ okV t := by
  unfold readR at h
  split at h
  · cases h
  · rename_i t0 a' z' hv
    split at h
    · cases h
    · rename_i h1
      split at h
      · cases h
      · rename_i h2
        simp only [Except.ok.injEq] at h
        subst h
        obtain ⟨b1, b2, b3, b4⟩ := val_bwd _ _ _ _ _ _ _ (by omega) hv
        rw [List.drop_zero, List.drop_eq_nil_of_le (by simp; omega), List.append_nil] at b1
        exact ⟨b1.symm, by omega, by omega, b4⟩
mutual
theorem val_plain : ∀ t : VT, valOf (plainOf t) = t
  | .unit => by simp [plainOf, valOf]
  | .truth b => by cases b <;> simp [plainOf, valOf]
  | .int n => by simp [plainOf, valOf]
  | .text s => by simp [plainOf, valOf]
  | .list l => by simp [plainOf, valOf, vals_plains l]
theorem vals_plains : ∀ l : List VT, valsOf (plainsOf l) = l
  | [] => rfl
  | t :: r => by simp only [plainsOf, valsOf, val_plain t, vals_plains r]
end
mutual
theorem okP_plain : ∀ t : VT, okV t → okP (plainOf t)
  | .unit, h => by simp [plainOf, okP, okPs]
  | .truth b, h => by cases b <;> simp [plainOf, okP, okPs]
  | .int n, h => by simp only [plainOf, okP, okPs, and_true]; exact h
  | .text s, h => by simp [plainOf, okP, okPs]
  | .list l, h => by simp only [plainOf, okP]; exact ⟨by decide, okPs_plain l h⟩
theorem okPs_plain : ∀ l : List VT, okVs l → okPs (plainsOf l)
  | [], _ => trivial
  | t :: r, h => ⟨okP_plain t h.1, okPs_plain r h.2⟩
end
mutual
theorem small_of : ∀ t : VT, nodesV t ≤ sizeV t ∧ depV t ≤ depW t ∧ (sizeV t ≤ 65536 → txtV t)
  | .unit => by simp [nodesV, sizeV, depV, depW, txtV]
  | .truth b => by simp [nodesV, sizeV, depV, depW, txtV]
  | .int n => by simp [nodesV, sizeV, depV, depW, txtV]
  | .text s => by simp [nodesV, sizeV, depV, depW, txtV]; omega
  | .list l => by
    obtain ⟨h1, h2, h3⟩ := smalls_of l
    simp only [nodesV, sizeV, depV, depW, txtV]
    exact ⟨by omega, by omega, fun h => h3 (by omega)⟩
theorem smalls_of : ∀ l : List VT, nodesVs l ≤ sizeVs l ∧ depVs l ≤ 1 + depWs l ∧ (sizeVs l ≤ 65536 → txtVs l)
  | [] => by simp [nodesVs, sizeVs, depVs, depWs, txtVs]
  | t :: r => by
    obtain ⟨a1, a2, a3⟩ := small_of t
    obtain ⟨b1, b2, b3⟩ := smalls_of r
    simp only [nodesVs, sizeVs, depVs, depWs, txtVs]
    exact ⟨by omega, by omega, fun h => ⟨a3 (by omega), b3 (by omega)⟩⟩
end
theorem nil_toList : (⟨#[]⟩ : ByteArray).toList = [] := by simp [ByteArray.toList_eq]
mutual
theorem meas_plain : ∀ (t : VT) (left deep : Int), (sizeV t : Int) ≤ left → deep + depW t ≤ 64 → meas (plainOf t) left deep = ((sizeV t : Int), true)
  | .unit, left, deep, hl, hd => by
    simp only [sizeV] at hl
    unfold plainOf meas
    rw [if_neg (by simp; omega), if_pos rfl]; simp [sizeV]
  | .truth b, left, deep, hl, hd => by
    simp only [sizeV] at hl
    unfold plainOf meas
    rw [if_neg (by simp; omega), if_neg (by decide), if_pos rfl]
    cases b <;> simp [sizeV]
  | .int n, left, deep, hl, hd => by
    simp only [sizeV] at hl
    unfold plainOf meas
    rw [if_neg (by simp; omega), if_neg (by decide), if_neg (by decide), if_pos rfl]; simp [sizeV]
  | .text s, left, deep, hl, hd => by
    simp only [sizeV] at hl
    unfold plainOf meas
    rw [if_neg (by simp; omega), if_neg (by decide), if_neg (by decide), if_neg (by decide), if_pos rfl]
    have : (s.size : Int) < left := by omega
    simp [sizeV, this]
  | .list l, left, deep, hl, hd => by
    simp only [sizeV, depW] at hl hd
    have h0 := Int.natCast_nonneg (depWs l)
    unfold plainOf meas
    rw [if_neg (by simp; omega), if_neg (by decide), if_neg (by decide), if_neg (by decide), if_neg (by decide), if_pos rfl, if_neg (by simp; omega),
      measL_plain l left (deep + 1) 1 (by omega) (by omega)]
    simp [sizeV]
theorem measL_plain : ∀ (l : List VT) (left deep n : Int), n + (sizeVs l : Int) ≤ left → deep + depWs l ≤ 64 → measL (plainsOf l) left deep n = (n + (sizeVs l : Int), true)
  | [], left, deep, n, hl, hd => by simp [plainsOf, measL, sizeVs]
  | t :: r, left, deep, n, hl, hd => by
    simp only [sizeVs, depWs] at hl hd
    have h1 := meas_plain t (left - n) deep (by omega) (by omega)
    simp only [plainsOf, measL]
    rw [h1]
    simp only [if_true]
    rw [measL_plain r left deep _ (by omega) (by omega)]
    simp only [sizeVs, Prod.mk.injEq, and_true]; omega
end
theorem may_of_plain {t : VT} (hz : sizeV t ≤ 65536) (hd : depW t ≤ 64) : mayP (plainOf t) = true := by
  unfold mayP
  rw [meas_plain t 65536 0 (by omega) (by omega)]
mutual
theorem size_may : ∀ (p : PT) (left deep : Int), left ≤ 65536 → deep ≤ 64 → (meas p left deep).2 = true → (sizeV (valOf p) : Int) = (meas p left deep).1 ∧ deep + depW (valOf p) ≤ 64
  | .mk k n s l, left, deep, hl, hd, h => by
    unfold meas at h ⊢
    split at h
    · simp at h
    · rename_i h0
      rw [if_neg h0]
      split at h
      · rename_i h1; rw [if_pos h1]; subst h1; simp [valOf, sizeV, depW]; omega
      · rename_i h1
        rw [if_neg h1]
        split at h
        · rename_i h2; rw [if_pos h2]; subst h2; simp [valOf, sizeV, depW]; omega
        · rename_i h2
          rw [if_neg h2]
          split at h
          · rename_i h3; rw [if_pos h3]; subst h3; simp [valOf, sizeV, depW]; omega
          · rename_i h3
            rw [if_neg h3]
            split at h
            · rename_i h4; rw [if_pos h4]; subst h4; simp [valOf, sizeV, depW]; omega
            · rename_i h4
              rw [if_neg h4]
              split at h
              · rename_i h5
                rw [if_pos h5]
                split at h
                · simp at h
                · rename_i h6
                  rw [if_neg h6]
                  subst h5
                  have hdd : deep ≠ 64 := fun e => h6 (.inr e)
                  obtain ⟨e1, e2⟩ := sizes_may l left (deep + 1) 1 (by omega) hl (by omega) h
                  refine ⟨by simp [valOf, sizeV]; omega, by simp [valOf, depW]; omega⟩
              · simp at h
theorem sizes_may : ∀ (l : List PT) (left deep n : Int), 0 ≤ n → left ≤ 65536 → deep ≤ 64 → (measL l left deep n).2 = true → n + (sizeVs (valsOf l) : Int) = (measL l left deep n).1 ∧ deep + depWs (valsOf l) ≤ 64
  | [], left, deep, n, hn, hl, hd, h => by simp [measL, valsOf, sizeVs, depWs]; omega
  | p :: r, left, deep, n, hn, hl, hd, h => by
    simp only [measL] at h ⊢
    split at h
    · rename_i hp
      rw [if_pos hp]
      obtain ⟨a1, a2⟩ := size_may p (left - n) deep (by omega) hd hp
      obtain ⟨b1, b2⟩ := sizes_may r left deep _ (by omega) hl hd h
      simp only [valsOf, sizeVs, depWs]
      exact ⟨by omega, by omega⟩
    · simp at h
end
theorem may_size {p : PT} (h : mayP p = true) : sizeV (valOf p) ≤ 65536 ∧ depW (valOf p) ≤ 64 := by
  have h1 := size_may p 65536 0 (by omega) (by omega) h
  have h2 := meas_bd p 65536 0 h
  omega
mutual
theorem cmpV_refl : ∀ t : VT, cmpV t t = 0
  | .unit => by simp [cmpV, ordI]
  | .truth b => by simp [cmpV, ordI]
  | .int n => by simp [cmpV, ordI]
  | .text s => by rw [cmpV]; exact ordS_eq rfl
  | .list l => by rw [cmpV]; exact cmpL_refl l
theorem cmpL_refl : ∀ l : List VT, cmpL l l = 0
  | [] => rfl
  | t :: r => by simp [cmpL, cmpV_refl t, cmpL_refl r]
end
theorem bytes_ext {a b : ByteArray} (h : a.toList = b.toList) : a = b := by
  rw [ByteArray.toList_eq, ByteArray.toList_eq] at h
  obtain ⟨⟨x⟩⟩ := a
  obtain ⟨⟨y⟩⟩ := b
  simp at h
  subst h
  rfl
mutual
theorem cmpV_eq : ∀ a b : VT, cmpV a b = 0 → a = b
  | .unit, .unit, h => rfl
  | .truth a, .truth b, h => by
    simp only [cmpV] at h
    have := ordI_zero.1 h
    cases a <;> cases b <;> simp_all [bitI]
  | .int a, .int b, h => by
    simp only [cmpV] at h
    rw [ordI_zero.1 h]
  | .text a, .text b, h => by
    simp only [cmpV] at h
    rcases ordS_cases a b with ⟨h1, _⟩ | ⟨_, h2⟩ | ⟨h1, _⟩
    · omega
    · rw [bytes_ext h2]
    · omega
  | .list a, .list b, h => by
    simp only [cmpV] at h
    rw [cmpL_eq a b h]
  | .unit, .truth _, h => by simp [cmpV, ordI, rankV] at h
  | .unit, .int _, h => by simp [cmpV, ordI, rankV] at h
  | .unit, .text _, h => by simp [cmpV, ordI, rankV] at h
  | .unit, .list _, h => by simp [cmpV, ordI, rankV] at h
  | .truth _, .unit, h => by simp [cmpV, ordI, rankV] at h
  | .truth _, .int _, h => by simp [cmpV, ordI, rankV] at h
  | .truth _, .text _, h => by simp [cmpV, ordI, rankV] at h
  | .truth _, .list _, h => by simp [cmpV, ordI, rankV] at h
  | .int _, .unit, h => by simp [cmpV, ordI, rankV] at h
  | .int _, .truth _, h => by simp [cmpV, ordI, rankV] at h
  | .int _, .text _, h => by simp [cmpV, ordI, rankV] at h
  | .int _, .list _, h => by simp [cmpV, ordI, rankV] at h
  | .text _, .unit, h => by simp [cmpV, ordI, rankV] at h
  | .text _, .truth _, h => by simp [cmpV, ordI, rankV] at h
  | .text _, .int _, h => by simp [cmpV, ordI, rankV] at h
  | .text _, .list _, h => by simp [cmpV, ordI, rankV] at h
  | .list _, .unit, h => by simp [cmpV, ordI, rankV] at h
  | .list _, .truth _, h => by simp [cmpV, ordI, rankV] at h
  | .list _, .int _, h => by simp [cmpV, ordI, rankV] at h
  | .list _, .text _, h => by simp [cmpV, ordI, rankV] at h
theorem cmpL_eq : ∀ a b : List VT, cmpL a b = 0 → a = b
  | [], [], h => rfl
  | [], _ :: _, h => by simp [cmpL] at h
  | _ :: _, [], h => by simp [cmpL] at h
  | a :: r, b :: q, h => by
    simp only [cmpL] at h
    split at h
    · rename_i h1; exact absurd h h1
    · rename_i h1
      rw [cmpV_eq a b (Classical.byContradiction h1), cmpL_eq r q h]
end
end

section
open Go.RowKit
set_option maxRecDepth 100000
theorem at_lt {L : List UInt8} {a : Nat} {c : UInt8} (h : L[a]? = some c) : a < L.length := (List.getElem?_eq_some_iff.1 h).1
theorem word_err {L : List UInt8} : ∀ (l : List UInt8) (a p : Nat), a ≤ L.length → wordR L l a = .error p → p ≤ L.length
  | [], a, p, ha, h => by simp [wordR] at h
  | b :: l, a, p, ha, h => by
    simp only [wordR] at h
    split at h
    · rename_i hc
      exact word_err l (a + 1) p (at_lt hc) h
    · simp only [Except.error.injEq] at h; omega
theorem escT_err {L : List UInt8} : ∀ (k : Nat) (n : Int) (a p : Nat), a < L.length → escT L k n a = .error p → p ≤ L.length
  | 0, n, a, p, ha, h => by simp [escT] at h
  | k + 1, n, a, p, ha, h => by
    rw [escT] at h
    split at h
    · simp only [Except.error.injEq] at h; omega
    · rename_i c hc
      split at h
      · simp only [Except.error.injEq] at h; omega
      · split at h
        · simp only [Except.error.injEq] at h; omega
        · exact escT_err k _ (a + 1) p (at_lt hc) h
theorem escR_err {L : List UInt8} {a p : Nat} (ha : a ≤ L.length) (h : escR L a = .error p) : p ≤ L.length := by
  unfold escR at h
  split at h
  · simp only [Except.error.injEq] at h; omega
  · rename_i c hc
    split at h
    · cases h
    · split at h
      · simp only [Except.error.injEq] at h; omega
      · exact escT_err 2 0 a p (at_lt hc) h
theorem text_err {L : List UInt8} : ∀ (k a : Nat) (acc : List UInt8) (p : Nat), a ≤ L.length → textF L k a acc = .error p → p ≤ L.length
  | 0, a, acc, p, ha, h => by simp only [textF, Except.error.injEq] at h; omega
  | k + 1, a, acc, p, ha, h => by
    simp only [textF] at h
    split at h
    · simp only [Except.error.injEq] at h; omega
    · rename_i c hc
      have hlt := at_lt hc
      split at h
      · simp only [Except.error.injEq] at h; omega
      · split at h
        · cases h
        · split at h
          · split at h
            · rename_i q hq
              simp only [Except.error.injEq] at h
              subst h
              exact escR_err hlt hq
            · rename_i x q hq
              have := (escR_bd hq).2
              exact text_err k (q + 1) _ p (by omega) h
          · exact text_err k (a + 1) _ p hlt h
theorem num_err {s : ByteArray} {a z p : Nat} {c : Int} (ha : a ≤ s.size) (h : numR s a z = .error (p, c)) : p ≤ s.size ∧ c ≠ 0 := by
  have hsz : s.data.toList.length = s.size := by simp
  have key : ∀ e, numV s a e z = .error (p, c) → p ≤ s.size ∧ c ≠ 0 := by
    intro e hn
    unfold numV at hn
    split at hn
    · cases hn
    · simp only [Except.error.injEq, Prod.mk.injEq] at hn
      obtain ⟨rfl, rfl⟩ := hn
      exact ⟨ha, by decide⟩
  unfold numR at h
  split at h
  · simp only [Except.error.injEq, Prod.mk.injEq] at h
    obtain ⟨rfl, rfl⟩ := h
    exact ⟨ha, by decide⟩
  · rename_i b hb
    have hlt := at_lt hb
    split at h
    · split at h
      · simp only [Except.error.injEq, Prod.mk.injEq] at h
        obtain ⟨rfl, rfl⟩ := h
        exact ⟨by omega, by decide⟩
      · split at h
        · exact key _ h
        · simp only [Except.error.injEq, Prod.mk.injEq] at h
          obtain ⟨rfl, rfl⟩ := h
          exact ⟨by omega, by decide⟩
    · split at h
      · exact key _ h
      · simp only [Except.error.injEq, Prod.mk.injEq] at h
        obtain ⟨rfl, rfl⟩ := h
        exact ⟨ha, by decide⟩
mutual
theorem val_err {s : ByteArray} : ∀ (k a z deep p : Nat) (c : Int), a ≤ s.size → z ≤ a → valR s k a z deep = .error (p, c) → p ≤ s.size ∧ c ≠ 0
  | 0, a, z, deep, p, c, ha, hz, h => by
    simp only [valR, Except.error.injEq, Prod.mk.injEq] at h
    obtain ⟨rfl, rfl⟩ := h
    exact ⟨ha, by decide⟩
  | k + 1, a, z, deep, p, c, ha, hz, h => by
    have hsz : s.data.toList.length = s.size := by simp
    simp only [valR] at h
    have hw : ∀ (t0 : VT) (l : List UInt8), wordV t0 (z + 1) (wordR s.data.toList l a) = .error (p, c) → p ≤ s.size ∧ c ≠ 0 := by
      intro t0 l hv
      cases hr : wordR s.data.toList l a with
      | error q =>
        rw [hr] at hv
        simp only [wordV, Except.error.injEq, Prod.mk.injEq] at hv
        obtain ⟨rfl, rfl⟩ := hv
        exact ⟨by have := word_err l a q (by omega) hr; omega, by decide⟩
      | ok q => rw [hr] at hv; cases hv
    split at h
    · exact num_err ha h
    · rename_i b hb
      have hlt := at_lt hb
      split at h
      · exact hw _ _ h
      · split at h
        · exact hw _ _ h
        · split at h
          · exact hw _ _ h
          · split at h
            · cases hr : textF s.data.toList (s.size + 1) (a + 1) [] with
              | error q =>
                rw [hr] at h
                simp only [textV, Except.error.injEq, Prod.mk.injEq] at h
                obtain ⟨rfl, rfl⟩ := h
                exact ⟨by have := text_err _ _ _ _ (by omega) hr; omega, by decide⟩
              | ok q => rw [hr] at h; cases h
            · split at h
              · exact list_err k a (z + 1) deep p c (by omega) (by omega) h
              · exact num_err ha h
theorem list_err {s : ByteArray} : ∀ (k a z deep p : Nat) (c : Int), a < s.size → z ≤ a + 1 → listR s k a z deep = .error (p, c) → p ≤ s.size ∧ c ≠ 0
  | 0, a, z, deep, p, c, ha, hz, h => by
    simp only [listR, Except.error.injEq, Prod.mk.injEq] at h
    obtain ⟨rfl, rfl⟩ := h
    exact ⟨by omega, by decide⟩
  | k + 1, a, z, deep, p, c, ha, hz, h => by
    simp only [listR] at h
    split at h
    · simp only [Except.error.injEq, Prod.mk.injEq] at h
      obtain ⟨rfl, rfl⟩ := h
      exact ⟨by omega, by decide⟩
    · split at h
      · cases h
      · exact elems_err k (a + 1) z deep [] p c (by omega) (by omega) h
theorem elems_err {s : ByteArray} : ∀ (k a z deep : Nat) (acc : List VT) (p : Nat) (c : Int), a ≤ s.size → z ≤ a → elemsR s k a z deep acc = .error (p, c) → p ≤ s.size ∧ c ≠ 0
  | 0, a, z, deep, acc, p, c, ha, hz, h => by
    simp only [elemsR, Except.error.injEq, Prod.mk.injEq] at h
    obtain ⟨rfl, rfl⟩ := h
    exact ⟨ha, by decide⟩
  | k + 1, a, z, deep, acc, p, c, ha, hz, h => by
    have hsz : s.data.toList.length = s.size := by simp
    simp only [elemsR] at h
    split at h
    · rename_i e he
      obtain ⟨p', c'⟩ := e
      simp only [Except.error.injEq, Prod.mk.injEq] at h
      obtain ⟨rfl, rfl⟩ := h
      exact val_err k a z (deep + 1) p' c' ha hz he
    · rename_i t0 a0 z0 hv
      have hb := valR_bd k a z (deep + 1) t0 a0 z0 ha hz hv
      split at h
      · cases h
      · split at h
        · split at h
          · rename_i q hq
            simp only [Except.error.injEq, Prod.mk.injEq] at h
            obtain ⟨rfl, rfl⟩ := h
            exact ⟨by have := word_err _ _ _ (by omega) hq; omega, by decide⟩
          · rename_i q hq
            have h1 := wordR_bd [44, 32] a0 q (by omega) hq
            simp at h1
            exact elems_err k q z0 deep _ p c (by omega) (by omega) h
        · simp only [Except.error.injEq, Prod.mk.injEq] at h
          obtain ⟨rfl, rfl⟩ := h
          exact ⟨by omega, by decide⟩
end
theorem read_err {s : ByteArray} {p : Nat} {c : Int} (h : readR s = .error (p, c)) : p ≤ s.size ∧ c ≠ 0 := by
  unfold readR at h
  split at h
  · rename_i pc hv
    obtain ⟨p', c'⟩ := pc
    simp only [Except.error.injEq, Prod.mk.injEq] at h
    obtain ⟨rfl, rfl⟩ := h
    exact val_err _ _ _ _ _ _ (by omega) (by omega) hv
  · rename_i t0 a' z' hv
    have hb := valR_bd _ _ _ _ _ _ _ (by omega) (by omega) hv
    split at h
    · simp only [Except.error.injEq, Prod.mk.injEq] at h
      obtain ⟨rfl, rfl⟩ := h
      exact ⟨by omega, by decide⟩
    · split at h
      · simp only [Except.error.injEq, Prod.mk.injEq] at h
        obtain ⟨rfl, rfl⟩ := h
        exact ⟨by omega, by decide⟩
      · cases h
/-- A text that was written is read as its value. -/
theorem read_text {p : PT} (hm : mayP p = true) (ho : okP p) : readR ⟨(enc (valOf p)).toArray⟩ = .ok (valOf p) := by
  obtain ⟨h1, h2⟩ := may_size hm
  exact read_enc (by simp) (okV_of p ho) h1 h2
theorem same_text {a b : PT} (ha : mayP a = true) (hb : mayP b = true) (hoa : okP a) (hob : okP b) : (enc (valOf a) = enc (valOf b)) ↔ sameP a b = true := by
  have h3 := F3 a b
  rw [ha, hb] at h3
  simp only [Bool.true_eq_false, and_self, or_false] at h3
  rw [← h3]
  unfold compP
  rw [ha, hb]
  simp only [if_true]
  constructor
  · intro he
    have h1 := read_text ha hoa
    have h2 := read_text hb hob
    rw [he, h2] at h1
    simp only [Except.ok.injEq] at h1
    rw [h1]; exact cmpV_refl _
  · intro he
    rw [cmpV_eq _ _ he]
end

section
open Go.RowKit
set_option maxRecDepth 100000
/-- Digits from a place on: where they end, and what they spell. -/
def digN (s : List UInt8) : Nat → Nat → Nat → Nat × Nat
  | 0, p, v => (p, v)
  | k + 1, p, v =>
    match s[p]? with
    | none => (p, v)
    | some d => if 48 ≤ d.toNat ∧ d.toNat ≤ 57 then digN s k (p + 1) (v * 10 + (d.toNat - 48)) else (p, v)
def valD (acc : Nat) (l : List UInt8) : Nat := l.foldl (fun a c => a * 10 + (c.toNat - 48)) acc
theorem valD_nil (acc : Nat) : valD acc [] = acc := rfl
theorem valD_cons (acc : Nat) (c : UInt8) (r : List UInt8) : valD acc (c :: r) = valD (acc * 10 + (c.toNat - 48)) r := by unfold valD; rw [List.foldl_cons]
theorem valD_ge : ∀ (l : List UInt8) (acc : Nat), acc ≤ valD acc l
  | [], acc => Nat.le_refl _
  | c :: r, acc => by have := valD_ge r (acc * 10 + (c.toNat - 48)); rw [valD_cons]; omega
theorem digN_scan {s : List UInt8} : ∀ (k p v : Nat), (digN s k p v).1 = scanD s k p
  | 0, p, v => rfl
  | k + 1, p, v => by
    rw [digN, scanD]
    cases s[p]? with
    | none => rfl
    | some d =>
      simp only
      split
      · exact digN_scan k _ _
      · rfl
theorem digN_val {s : List UInt8} : ∀ (k p v : Nat), (∀ c ∈ (s.drop p).take ((digN s k p v).1 - p), IsDig c) ∧ (digN s k p v).2 = valD v ((s.drop p).take ((digN s k p v).1 - p))
  | 0, p, v => by simp [digN, valD_nil]
  | k + 1, p, v => by
    rw [digN]
    cases hc : s[p]? with
    | none => simp [valD_nil]
    | some d =>
      simp only
      split
      · rename_i hd
        have ih := digN_val k (p + 1) (v * 10 + (d.toNat - 48)) (s := s)
        have hge : p + 1 ≤ (digN s k (p + 1) (v * 10 + (d.toNat - 48))).1 := by rw [digN_scan]; exact scan_ge _ _
        rw [drop_cons hc]
        generalize digN s k (p + 1) (v * 10 + (d.toNat - 48)) = x at ih hge ⊢
        rw [show x.1 - p = (x.1 - (p + 1)) + 1 from by omega, List.take_succ_cons]
        refine ⟨fun c h => ?_, by rw [valD_cons]; exact ih.2⟩
        rcases List.mem_cons.1 h with rfl | h
        · exact hd
        · exact ih.1 c h
      · simp [valD_nil]
def ParseE (M v : Nat) : Lib.NumEnd Nat → Prop
  | .ok u => u = v ∧ v ≤ M
  | .range => M < v
  | _ => False
theorem parse_val : ∀ (l : List UInt8) (acc : Nat), acc ≤ 18446744073709551615 → (∀ c ∈ l, IsDig c) → ParseE 18446744073709551615 (valD acc l) (Lib.parseUintM 18446744073709551615 acc l)
  | [], acc, h, _ => by simp [Lib.parseUintM, valD_nil, ParseE]; exact h
  | c :: r, acc, h, hd => by
    obtain ⟨h1, h2⟩ := hd c (by simp)
    have hge := valD_ge r (acc * 10 + (c.toNat - 48))
    rw [Lib.parseUintM, if_pos ⟨h1, h2⟩, valD_cons]
    split
    · show _ < _; omega
    · split
      · show _ < _; omega
      · exact parse_val r _ (by omega) (fun c hc => hd c (by simp [hc]))
/-- What the reference makes of the digits of a number. -/
def numY (neg : Bool) (a z : Nat) (x : Nat × Nat) : RR :=
  if 9223372036854775808 < x.2 ∨ (x.2 = 9223372036854775808 ∧ neg = false) then .error (a, 21)
  else .ok (.int (if neg then -(x.2 : Int) else x.2), x.1, z)
theorem intB_pos {c : UInt8} {r : List UInt8} (hc : IsDig c) (hr : ∀ x ∈ r, IsDig x) : (9223372036854775808 ≤ valD 0 (c :: r) → Lib.parseIntB 64 (c :: r) = .range) ∧ (valD 0 (c :: r) < 9223372036854775808 → Lib.parseIntB 64 (c :: r) = .ok (valD 0 (c :: r))) := by
  have hp := parse_val (c :: r) 0 (by omega) (fun x hx => by
    rcases List.mem_cons.1 hx with rfl | hx
    · exact hc
    · exact hr x hx)
  have h43 : ¬ c.toNat = 43 := by have := hc.1; omega
  have h45 : ¬ c.toNat = 45 := by have := hc.1; omega
  have e : Lib.parseIntB 64 (c :: r) = match Lib.parseUintM 18446744073709551615 0 (c :: r) with
    | Lib.NumEnd.syntax => Lib.NumEnd.syntax
    | .range => .range
    | .ok u => if 9223372036854775808 ≤ u then .range else .ok (u : Int) := by
    unfold Lib.parseIntB
    simp [Lib.parseUintB, h43, h45]
    cases Lib.parseUintM 18446744073709551615 0 (c :: r) <;> rfl
  rw [e]
  generalize valD 0 (c :: r) = v at hp ⊢
  rcases hq : Lib.parseUintM 18446744073709551615 0 (c :: r) with u | _ | _
  · rw [hq] at hp
    obtain ⟨rfl, h2⟩ : u = v ∧ v ≤ _ := hp
    exact ⟨fun h => if_pos h, fun h => if_neg (by omega)⟩
  · rw [hq] at hp; exact hp.elim
  · rw [hq] at hp
    have : 18446744073709551615 < v := hp
    exact ⟨fun h => rfl, fun h => by omega⟩
theorem intB_neg {c : UInt8} {r : List UInt8} (hc : IsDig c) (hr : ∀ x ∈ r, IsDig x) : (9223372036854775808 < valD 0 (c :: r) → Lib.parseIntB 64 (45 :: c :: r) = .range) ∧ (valD 0 (c :: r) ≤ 9223372036854775808 → Lib.parseIntB 64 (45 :: c :: r) = .ok (-(valD 0 (c :: r) : Int))) := by
  have hp := parse_val (c :: r) 0 (by omega) (fun x hx => by
    rcases List.mem_cons.1 hx with rfl | hx
    · exact hc
    · exact hr x hx)
  have e : Lib.parseIntB 64 (45 :: c :: r) = match Lib.parseUintM 18446744073709551615 0 (c :: r) with
    | Lib.NumEnd.syntax => Lib.NumEnd.syntax
    | .range => .range
    | .ok u => if 9223372036854775808 < u then .range else .ok (-(u : Int)) := by
    unfold Lib.parseIntB
    simp [Lib.parseUintB]
    cases Lib.parseUintM 18446744073709551615 0 (c :: r) <;> rfl
  rw [e]
  generalize valD 0 (c :: r) = v at hp ⊢
  rcases hq : Lib.parseUintM 18446744073709551615 0 (c :: r) with u | _ | _
  · rw [hq] at hp
    obtain ⟨rfl, h2⟩ : u = v ∧ v ≤ _ := hp
    exact ⟨fun h => if_pos h, fun h => if_neg (by omega)⟩
  · rw [hq] at hp; exact hp.elim
  · rw [hq] at hp
    have : 18446744073709551615 < v := hp
    exact ⟨fun h => rfl, fun h => by omega⟩
theorem take_cons' {s : List UInt8} {a e : Nat} {c : UInt8} (h : s[a]? = some c) (he : a < e) : (s.drop a).take (e - a) = c :: (s.drop (a + 1)).take (e - (a + 1)) := by
  rw [drop_cons h, show e - a = (e - (a + 1)) + 1 from by omega, List.take_succ_cons]
theorem numY_pos {s : ByteArray} {a z : Nat} {c : UInt8} (h : s.data.toList[a]? = some c) (hc : 49 ≤ c.toNat ∧ c.toNat ≤ 57) : numV s a (numEnd s.data.toList a c) z = numY false a z (digN s.data.toList (s.data.toList.length + 2) a 0) := by
  have hd : 48 ≤ c.toNat ∧ c.toNat ≤ 57 := by omega
  have e1 : (digN s.data.toList (s.data.toList.length + 2) a 0).1 = numEnd s.data.toList a c := by
    rw [digN_scan, numEnd, if_neg (by omega), scanD, h]
    simp only
    rw [if_pos hd]
  have hlt : a < numEnd s.data.toList a c := by
    have := scan_ge (L := s.data.toList) (s.data.toList.length + 1) (a + 1)
    rw [numEnd, if_neg (by omega)]; omega
  obtain ⟨g1, g2⟩ := digN_val (s := s.data.toList) (s.data.toList.length + 2) a 0
  rw [e1, take_cons' h hlt] at g1 g2
  have hb := intB_pos (c := c) (r := (s.data.toList.drop (a + 1)).take (numEnd s.data.toList a c - (a + 1))) hd (fun x hx => g1 x (by simp [hx]))
  have e2 : (s.extract a (numEnd s.data.toList a c)).data.toList = c :: (s.data.toList.drop (a + 1)).take (numEnd s.data.toList a c - (a + 1)) := by rw [extract_list, take_cons' h hlt]
  rw [← e2] at hb g2
  unfold numY
  rw [g2]
  by_cases hv : 9223372036854775808 ≤ valD 0 (s.extract a (numEnd s.data.toList a c)).data.toList
  · rw [if_pos ((Nat.lt_or_eq_of_le hv).imp id (fun e => ⟨e.symm, rfl⟩)), numV_no (fun v hv' => by rw [hb.1 hv] at hv'; cases hv')]
  · rw [if_neg (fun hh => by rcases hh with hh | ⟨hh, _⟩ <;> omega), numV_ok (hb.2 (by omega)), e1]; rfl
theorem numY_neg {s : ByteArray} {a z : Nat} {c d : UInt8} (h0 : s.data.toList[a]? = some d) (hd0 : d.toNat = 45) (h : s.data.toList[a + 1]? = some c) (hc : 49 ≤ c.toNat ∧ c.toNat ≤ 57) : numV s a (numEnd s.data.toList (a + 1) c) z = numY true a z (digN s.data.toList (s.data.toList.length + 2) (a + 1) 0) := by
  have hd : 48 ≤ c.toNat ∧ c.toNat ≤ 57 := by omega
  have e1 : (digN s.data.toList (s.data.toList.length + 2) (a + 1) 0).1 = numEnd s.data.toList (a + 1) c := by
    rw [digN_scan, numEnd, if_neg (by omega), scanD, h]
    simp only
    rw [if_pos hd]
  have hlt : a + 1 < numEnd s.data.toList (a + 1) c := by
    have := scan_ge (L := s.data.toList) (s.data.toList.length + 1) (a + 1 + 1)
    rw [numEnd, if_neg (by omega)]; omega
  obtain ⟨g1, g2⟩ := digN_val (s := s.data.toList) (s.data.toList.length + 2) (a + 1) 0
  rw [e1, take_cons' h hlt] at g1 g2
  have hb := intB_neg (c := c) (r := (s.data.toList.drop (a + 1 + 1)).take (numEnd s.data.toList (a + 1) c - (a + 1 + 1))) hd (fun x hx => g1 x (by simp [hx]))
  have ed : d = 45 := UInt8.toNat_inj.1 hd0
  have e2 : (s.extract a (numEnd s.data.toList (a + 1) c)).data.toList = 45 :: c :: (s.data.toList.drop (a + 1 + 1)).take (numEnd s.data.toList (a + 1) c - (a + 1 + 1)) := by
    rw [extract_list, take_cons' h0 (by omega), take_cons' h hlt, ed]
  rw [← e2] at hb
  unfold numY
  rw [g2]
  generalize valD 0 (c :: (s.data.toList.drop (a + 1 + 1)).take (numEnd s.data.toList (a + 1) c - (a + 1 + 1))) = v at hb ⊢
  by_cases hv : 9223372036854775808 < v
  · rw [if_pos (.inl hv), numV_no (fun v hv' => by rw [hb.1 hv] at hv'; cases hv')]
  · rw [if_neg (fun hh => by rcases hh with hh | ⟨_, hh⟩
                             · omega
                             · cases hh), numV_ok (hb.2 (by omega)), e1]; rfl
end

section
open Go.RowKit
set_option maxRecDepth 100000
/-- The reference's number: a nought that a digit follows is at fault at once. -/
def numX (s : ByteArray) (a z : Nat) : RR :=
  if pkI s a = 48 ∧ 48 ≤ pkI s (a + 1) ∧ pkI s (a + 1) ≤ 57 then .error (a + 1, 5) else numR s a z
mutual
def valX (s : ByteArray) : Nat → Nat → Nat → Nat → RR
  | 0, a, _, _ => .error (a, 99)
  | k + 1, a, z, deep =>
    if pkI s a = 117 then wordV .unit (z + 1) (wordR s.data.toList [117, 110, 105, 116] a)
    else if pkI s a = 121 then wordV (.truth true) (z + 1) (wordR s.data.toList [121, 101, 115] a)
    else if pkI s a = 110 then wordV (.truth false) (z + 1) (wordR s.data.toList [110, 111] a)
    else if pkI s a = 45 ∨ (48 ≤ pkI s a ∧ pkI s a ≤ 57) then numX s a (z + 1)
    else if pkI s a = 34 then textV (z + 1) (textF s.data.toList (s.size + 1) (a + 1) [])
    else if pkI s a = 91 then listX s k a (z + 1) deep
    else .error (a, 5)
def listX (s : ByteArray) : Nat → Nat → Nat → Nat → RR
  | 0, a, _, _ => .error (a, 99)
  | k + 1, a, z, deep =>
    if deep = 64 then .error (a, 2)
    else if pkI s (a + 1) = 93 then .ok (.list [], a + 2, z)
    else elemsX s k (a + 1) z deep []
def elemsX (s : ByteArray) : Nat → Nat → Nat → Nat → List VT → RR
  | 0, a, _, _, _ => .error (a, 99)
  | k + 1, a, z, deep, acc =>
    match valX s k a z (deep + 1) with
    | .error e => .error e
    | .ok (t, a', z') =>
      if pkI s a' = 93 then .ok (.list (acc ++ [t]), a' + 1, z')
      else
        match wordR s.data.toList [44, 32] a' with
        | .error p => .error (p, 5)
        | .ok a'' => elemsX s k a'' z' deep (acc ++ [t])
end
theorem pkI_lit {s : ByteArray} {a : Nat} (b : UInt8) : pkI s a = (b.toNat : Int) ↔ s.data.toList[a]? = some b := by
  have hb := b.toNat_lt
  cases h : s.data.toList[a]? with
  | none => rw [pkI_none h]; simp; omega
  | some c =>
    rw [pkI_some h]
    constructor
    · intro e
      have : c = b := UInt8.toNat_inj.1 (by omega)
      rw [this]
    · intro e
      rw [Option.some.inj e]
theorem numR_nodigit {s : ByteArray} {a z : Nat} (h : ¬ (pkI s a = 45 ∨ (48 ≤ pkI s a ∧ pkI s a ≤ 57))) : numR s a z = .error (a, 5) := by
  unfold numR
  cases hc : s.data.toList[a]? with
  | none => rfl
  | some c =>
    rw [pkI_some hc] at h
    simp only
    rw [if_neg (by omega), if_neg (by omega)]
/-- Where the two readings differ: at a nought that a digit follows. -/
def AtDig (s : ByteArray) (x y : RR) : Prop := x = y ∨ ∃ e t z, x = .error (e, 5) ∧ y = .ok (t, e, z) ∧ 48 ≤ pkI s e ∧ pkI s e ≤ 57
theorem numX_at (s : ByteArray) (a z : Nat) : AtDig s (numX s a z) (numR s a z) := by
  unfold numX
  split
  · rename_i h
    obtain ⟨h1, h2, h3⟩ := h
    have hc : s.data.toList[a]? = some 48 := (pkI_lit 48).1 h1
    have hlt : a < s.data.toList.length := (List.getElem?_eq_some_iff.1 hc).1
    refine .inr ⟨a + 1, .int 0, z, rfl, ?_, h2, h3⟩
    unfold numR
    rw [hc]
    have e : (s.extract a (a + 1)).data.toList = [48] := by
      rw [extract_list, take_cons' hc (by omega)]; simp
    simp only [numEnd]
    have hp : Lib.parseIntB 64 (s.extract a (a + 1)).data.toList = .ok 0 := by rw [e]; decide
    exact numV_ok hp
  · exact .inl rfl
theorem elems_dig {s : ByteArray} {k a z deep : Nat} {acc : List VT} {t : VT} {e z' : Nat} (h : valR s k a z (deep + 1) = .ok (t, e, z')) (h1 : 48 ≤ pkI s e) (h2 : pkI s e ≤ 57) : elemsR s (k + 1) a z deep acc = .error (e, 5) := by
  rw [elemsR, h]
  simp only
  rw [if_neg (fun hh => by have := (pkI_lit (s := s) 93).2 hh; simp at this; omega), if_neg (fun hh => by have := (pkI_lit (s := s) 44).2 hh; simp at this; omega)]
mutual
theorem valX_at {s : ByteArray} : ∀ (k a z deep : Nat), AtDig s (valX s k a z deep) (valR s k a z deep)
  | 0, a, z, deep => .inl (by rw [valX, valR])
  | k + 1, a, z, deep => by
    rw [valX, valR]
    cases hc : s.data.toList[a]? with
    | none =>
      rw [pkI_none hc]
      have e : numR s a (z + 1) = .error (a, 5) := numR_nodigit (by rw [pkI_none hc]; omega)
      rw [e]; exact .inl (by simp)
    | some c =>
      have hn := numX_at s a (z + 1)
      have hn2 := numR_nodigit (s := s) (a := a) (z := z + 1)
      rw [pkI_some hc] at hn2 ⊢
      simp only
      by_cases h1 : c.toNat = 117
      · rw [if_pos (by omega), if_pos h1]; exact .inl rfl
      · rw [if_neg (by omega), if_neg h1]
        by_cases h2 : c.toNat = 121
        · rw [if_pos (by omega), if_pos h2]; exact .inl rfl
        · rw [if_neg (by omega), if_neg h2]
          by_cases h3 : c.toNat = 110
          · rw [if_pos (by omega), if_pos h3]; exact .inl rfl
          · rw [if_neg (by omega), if_neg h3]
            by_cases h4 : (c.toNat : Int) = 45 ∨ (48 ≤ (c.toNat : Int) ∧ (c.toNat : Int) ≤ 57)
            · rw [if_pos h4, if_neg (show ¬ c.toNat = 34 by omega), if_neg (show ¬ c.toNat = 91 by omega)]
              exact hn
            · rw [if_neg h4]
              by_cases h5 : c.toNat = 34
              · rw [if_pos (by omega), if_pos h5]; exact .inl rfl
              · rw [if_neg (by omega), if_neg h5]
                by_cases h6 : c.toNat = 91
                · rw [if_pos (by omega), if_pos h6]; exact .inl (listX_eq k a (z + 1) deep)
                · rw [if_neg (by omega), if_neg h6, hn2 h4]; exact .inl rfl
theorem listX_eq {s : ByteArray} : ∀ (k a z deep : Nat), listX s k a z deep = listR s k a z deep
  | 0, a, z, deep => by rw [listX, listR]
  | k + 1, a, z, deep => by
    rw [listX, listR, elemsX_eq k (a + 1) z deep []]
    have h := pkI_lit (s := s) (a := a + 1) 93
    by_cases h1 : deep = 64
    · rw [if_pos h1, if_pos h1]
    · rw [if_neg h1, if_neg h1]
      by_cases h2 : pkI s (a + 1) = 93
      · rw [if_pos h2, if_pos (h.1 h2)]
      · rw [if_neg h2, if_neg (fun e => h2 (h.2 e))]
theorem elemsX_eq {s : ByteArray} : ∀ (k a z deep : Nat) (acc : List VT), elemsX s k a z deep acc = elemsR s k a z deep acc
  | 0, a, z, deep, acc => by rw [elemsX, elemsR]
  | k + 1, a, z, deep, acc => by
    rcases valX_at (s := s) k a z (deep + 1) with h | ⟨e, t, z', h1, h2, h3, h4⟩
    · rw [elemsX, elemsR, h]
      cases hv : valR s k a z (deep + 1) with
      | error e => rfl
      | ok x =>
        obtain ⟨t, a', z'⟩ := x
        simp only
        have h93 := pkI_lit (s := s) (a := a') 93
        by_cases h1 : pkI s a' = 93
        · rw [if_pos h1, if_pos (h93.1 h1)]
        · rw [if_neg h1, if_neg (fun e => h1 (h93.2 e))]
          by_cases h2 : s.data.toList[a']? = some 44
          · rw [if_pos h2]
            cases hw : wordR s.data.toList [44, 32] a' with
            | error p => rfl
            | ok q => exact elemsX_eq k q z' deep (acc ++ [t])
          · rw [if_neg h2, wordR, if_neg h2]
    · rw [elems_dig h2 h3 h4, elemsX, h1]
end
/-- What the reference's reading comes to. -/
def readX (s : ByteArray) : Except (Nat × Int) VT :=
  match valX s (3 * s.size + 3) 0 0 0 with
  | .error pc => .error pc
  | .ok (t, a', z') => if a' < s.size then .error (a', 5) else if 65536 < z' then .error (s.size, 2) else .ok t
theorem readX_eq (s : ByteArray) : readX s = readR s := by
  unfold readX readR
  rcases valX_at (s := s) (3 * s.size + 3) 0 0 0 with h | ⟨e, t, z', h1, h2, h3, h4⟩
  · rw [h]
    try (cases valR s (3 * s.size + 3) 0 0 0 <;> rfl)
  · rw [h1, h2]
    have : e < s.size := by
      rcases Nat.lt_or_ge e s.size with h | h
      · exact h
      · have := pkI_none (s := s) (a := e) (List.getElem?_eq_none (by simpa using h))
        omega
    simp only
    rw [if_pos this]
end

section
open Go.RowKit
set_option maxRecDepth 100000
mutual
/-- A twin: each list that is no nil in a block of its own, a mark behind it; the blocks. -/
def TwP (w : World) : PT → List Value → List Nat → Prop
  | .mk k n s l, cs, bs => s.size ≤ 140737488355328 ∧ l.length ≤ 4398046511104 ∧ ∃ la lc, cs = [.int .i64 k, .int .i64 n, .string s, .slice la l.length lc] ∧
      ((la = none ∧ l = [] ∧ bs = []) ∨ ∃ b' xs bl, la = some ⟨b', 0, none⟩ ∧ lc = l.length + 1 ∧ (∀ j v, (xs ++ [.int .i64 (-7)])[j]? = some v → w.cell? ⟨b', j, none⟩ = some v) ∧ TwPs w l xs bl ∧ bs = b' :: bl)
def TwPs (w : World) : List PT → List Value → List Nat → Prop
  | [], xs, bs => xs = [] ∧ bs = []
  | p :: r, xs, bs => ∃ cs xr b br, xs = cs ++ xr ∧ bs = b ++ br ∧ TwP w p cs b ∧ TwPs w r xr br
end
theorem TwP.len {w : World} {p : PT} {cs : List Value} {bs : List Nat} (h : TwP w p cs bs) : cs.length = 4 := by
  cases p with
  | mk k n s l =>
    obtain ⟨_, _, la, lc, rfl, _⟩ := h
    rfl
theorem TwP.form {w : World} {p : PT} {cs : List Value} {bs : List Nat} (h : TwP w p cs bs) : ∃ k n s la ln lc, cs = [.int .i64 k, .int .i64 n, .string s, .slice la ln lc] := by
  cases p with
  | mk k n s l =>
    simp only [TwP] at h
    obtain ⟨h1, h2, la, lc, rfl, h4⟩ := h
    exact ⟨k, n, s, la, _, lc, rfl⟩
theorem TwPs.len {w : World} : ∀ {l : List PT} {xs : List Value} {bs : List Nat}, TwPs w l xs bs → xs.length = 4 * l.length
  | [], xs, bs, h => by rw [h.1]; rfl
  | p :: r, xs, bs, h => by
    obtain ⟨cs, xr, b, br, rfl, rfl, h1, h2⟩ := h
    rw [List.length_append, h1.len, TwPs.len h2, List.length_cons]
    omega
mutual
theorem TwP.keep {w w' : World} : ∀ (p : PT) (cs : List Value) (bs : List Nat), (∀ g ∈ bs, w'.heap[g]? = w.heap[g]?) → TwP w p cs bs → TwP w' p cs bs
  | .mk k n s l, cs, bs, hk, h => by
    simp only [TwP] at h ⊢
    obtain ⟨h1, h2, la, lc, h3, h4⟩ := h
    refine ⟨h1, h2, la, lc, h3, ?_⟩
    rcases h4 with h4 | ⟨b', xs, bl, h5, h6, h7, h8, rfl⟩
    · exact .inl h4
    · refine .inr ⟨b', xs, bl, h5, h6, fun j v hv => ?_, TwPs.keep l xs bl (fun g hg => hk g (by simp [hg])) h8, rfl⟩
      rw [cellOf_heap (hk b' (by simp))]
      exact h7 j v hv
theorem TwPs.keep {w w' : World} : ∀ (l : List PT) (xs : List Value) (bs : List Nat), (∀ g ∈ bs, w'.heap[g]? = w.heap[g]?) → TwPs w l xs bs → TwPs w' l xs bs
  | [], xs, bs, hk, h => h
  | p :: r, xs, bs, hk, h => by
    simp only [TwPs] at h ⊢
    obtain ⟨cs, xr, b, br, rfl, rfl, h1, h2⟩ := h
    exact ⟨cs, xr, b, br, rfl, rfl, TwP.keep p cs b (fun g hg => hk g (by simp [hg])) h1, TwPs.keep r xr br (fun g hg => hk g (by simp [hg])) h2⟩
end
mutual
theorem TwP.lt {w : World} : ∀ (p : PT) (cs : List Value) (bs : List Nat), TwP w p cs bs → ∀ g ∈ bs, g < w.heap.size
  | .mk k n s l, cs, bs, h, g, hg => by
    simp only [TwP] at h
    obtain ⟨h1, h2, la, lc, h3, h4⟩ := h
    rcases h4 with ⟨_, _, rfl⟩ | ⟨b', xs, bl, h5, h6, h7, h8, rfl⟩
    · simp at hg
    · rcases List.mem_cons.1 hg with rfl | hg
      · exact cell_lt (h7 xs.length (.int .i64 (-7)) (by simp))
      · exact TwPs.lt l xs bl h8 g hg
theorem TwPs.lt {w : World} : ∀ (l : List PT) (xs : List Value) (bs : List Nat), TwPs w l xs bs → ∀ g ∈ bs, g < w.heap.size
  | [], xs, bs, h, g, hg => by rw [h.2] at hg; simp at hg
  | p :: r, xs, bs, h, g, hg => by
    simp only [TwPs] at h
    obtain ⟨cs, xr, b, br, rfl, rfl, h1, h2⟩ := h
    rcases List.mem_append.1 hg with hg | hg
    · exact TwP.lt p cs b h1 g hg
    · exact TwPs.lt r xr br h2 g hg
end
theorem TwPs.snoc {w : World} : ∀ (l : List PT) (xs : List Value) (bs : List Nat) (p : PT) (cs : List Value) (b : List Nat), TwPs w l xs bs → TwP w p cs b → TwPs w (l ++ [p]) (xs ++ cs) (bs ++ b)
  | [], xs, bs, p, cs, b, h, hp => by
    obtain ⟨rfl, rfl⟩ := h
    exact ⟨cs, [], b, [], by simp, by simp, hp, rfl, rfl⟩
  | q :: r, xs, bs, p, cs, b, h, hp => by
    obtain ⟨cs', xr, b', br, rfl, rfl, h1, h2⟩ := h
    exact ⟨cs', xr ++ cs, b', br ++ b, by simp, by simp, h1, TwPs.snoc r xr br p cs b h2 hp⟩
theorem left_get {A B : List Value} {j : Nat} {v : Value} (h : A[j]? = some v) : (A ++ B)[j]? = some v := by
  rw [List.getElem?_append_left (by rcases Nat.lt_or_ge j A.length with h' | h'; exact h'; simp [List.getElem?_eq_none h'] at h)]
  exact h
mutual
theorem TwP.inP {w : World} : ∀ (p : PT) (cs : List Value) (bs : List Nat) (b o : Nat), TwP w p cs bs → (∀ j v, cs[j]? = some v → w.cell? ⟨b, o + j, none⟩ = some v) → InP w b o p
  | .mk k n s l, cs, bs, b, o, h, hc => by
    simp only [TwP] at h
    obtain ⟨h1, h2, la, lc, rfl, h4⟩ := h
    refine ⟨h1, h2, la, lc, ⟨hc 0 _ rfl, hc 1 _ rfl, hc 2 _ rfl, hc 3 _ rfl⟩, fun hl => ?_⟩
    rcases h4 with ⟨_, h4, _⟩ | ⟨b', xs, bl, h5, h6, h7, h8, rfl⟩
    · exact absurd h4 hl
    · exact ⟨b', 0, h5, TwPs.inPs l xs bl b' 0 h8 (fun j v hv => by rw [Nat.zero_add]; exact h7 j v (left_get hv))⟩
theorem TwPs.inPs {w : World} : ∀ (l : List PT) (xs : List Value) (bs : List Nat) (b o : Nat), TwPs w l xs bs → (∀ j v, xs[j]? = some v → w.cell? ⟨b, o + j, none⟩ = some v) → InPs w b o l
  | [], xs, bs, b, o, h, hc => trivial
  | p :: r, xs, bs, b, o, h, hc => by
    simp only [TwPs] at h
    obtain ⟨cs, xr, bp, br, rfl, rfl, h1, h2⟩ := h
    have hl := h1.len
    refine ⟨TwP.inP p cs bp b o h1 (fun j v hv => hc j v (left_get hv)), TwPs.inPs r xr br b (o + 4) h2 (fun j v hv => ?_)⟩
    have := hc (4 + j) v (by rw [List.getElem?_append_right (by omega), hl, Nat.add_sub_cancel_left]; exact hv)
    rw [Nat.add_assoc]; exact this
end
theorem TwP.arg {w : World} {p : PT} {cs : List Value} {bs : List Nat} (h : TwP w p cs bs) : ArgP w p (.agg cs.toArray) := by
  cases p with
  | mk k n s l =>
    simp only [TwP] at h
    obtain ⟨h1, h2, la, lc, rfl, h4⟩ := h
    refine ⟨h1, h2, la, lc, rfl, fun hl => ?_⟩
    rcases h4 with ⟨_, h4, _⟩ | ⟨b', xs, bl, h5, h6, h7, h8, rfl⟩
    · exact absurd h4 hl
    · exact ⟨b', 0, h5, TwPs.inPs l xs bl b' 0 h8 (fun j v hv => by rw [Nat.zero_add]; exact h7 j v (left_get hv))⟩
mutual
/-- No list is long. -/
def shortP : PT → Prop
  | .mk _ _ _ l => l.length ≤ 65536 ∧ shortPs l
def shortPs : List PT → Prop
  | [] => True
  | p :: r => shortP p ∧ shortPs r
end
theorem shortPs_get : ∀ (l : List PT) (i : Nat) (h : i < l.length), shortPs l → shortP l[i]
  | p :: r, 0, h, ho => ho.1
  | p :: r, i + 1, h, ho => shortPs_get r i (by simpa using h) ho.2
mutual
theorem may_short : ∀ (p : PT) (left deep : Int), left ≤ 65536 → (meas p left deep).2 = true → shortP p
  | .mk k n s l, left, deep, hl, h => by
    unfold meas at h
    split at h
    · simp at h
    · rename_i h0
      have hll : k ≠ 5 → l = [] := fun hk => List.length_eq_zero_iff.1 (by have := fun hn : 0 < l.length => h0 (.inr (.inr ⟨hk, hn⟩)); omega)
      by_cases hk : k = 5
      · subst hk
        rw [if_neg (by decide), if_neg (by decide), if_neg (by decide), if_neg (by decide), if_pos rfl] at h
        split at h
        · simp at h
        · have h1 := may_shorts l left (deep + 1) 1 (by omega) hl h
          have h2 := measL_bd l left (deep + 1) 1 (by omega) (by have := fun e : left < 1 => h0 (.inl e); omega) h
          exact ⟨by omega, h1.1⟩
      · rw [hll hk]
        exact ⟨by simp, trivial⟩
theorem may_shorts : ∀ (l : List PT) (left deep n : Int), 0 ≤ n → left ≤ 65536 → (measL l left deep n).2 = true → shortPs l ∧ n + (l.length : Int) ≤ (measL l left deep n).1
  | [], left, deep, n, hn, hl, h => by simp [shortPs, measL]
  | p :: r, left, deep, n, hn, hl, h => by
    simp only [measL] at h ⊢
    split at h
    · rename_i hp
      rw [if_pos hp]
      have h1 := may_short p (left - n) deep (by omega) hp
      have h2 := meas_bd p (left - n) deep hp
      have h3 := may_shorts r left deep _ (by omega) hl h
      exact ⟨⟨h1, h3.1⟩, by simp only [List.length_cons]; omega⟩
    · simp at h
end
def TwR (p : PT) (w : World) (e : Ending) (w' : World) : Prop := ∃ cs bs, e = .returned (.agg cs.toArray) ∧ TwP w' p cs bs ∧ (∀ g ∈ bs, w.heap.size ≤ g) ∧ Below w.heap.size w w'
def TwFor (p : PT) : Prop := ∀ (w : World) (v : Value), ArgP w p v → shortP p → Calls Tryz.prog 17 #[v] w (TwR p w)
@[go_sem] theorem sl_eq_nil (n c : Nat) (w : World) : (binOp .eql 25 (.slice none n c) (.slice none 0 0)).run Tryz.prog w = .ok (.bool true) w := by kernel_rfl
@[go_sem] theorem sl_eq_some (a : Addr) (n c : Nat) (w : World) : (binOp .eql 25 (.slice (some a) n c) (.slice none 0 0)).run Tryz.prog w = .ok (.bool false) w := by kernel_rfl
@[go_sem] theorem sl_ne_nil (n c : Nat) (w : World) : (binOp .neq 25 (.slice none n c) (.slice none 0 0)).run Tryz.prog w = .ok (.bool false) w := by kernel_rfl
@[go_sem] theorem sl_ne_some (a : Addr) (n c : Nat) (w : World) : (binOp .neq 25 (.slice (some a) n c) (.slice none 0 0)).run Tryz.prog w = .ok (.bool true) w := by kernel_rfl
theorem two_new (w : World) (a b c d a' b' c' d' : Value) (t t' : TypeId) : ((w.alloc (.cells #[a, b, c, d] t)).alloc (.cells #[a', b', c', d'] t')).heap[w.heap.size]? = some (.cells #[a, b, c, d] t (0, 0)) ∧
    ((w.alloc (.cells #[a, b, c, d] t)).alloc (.cells #[a', b', c', d'] t')).heap[w.heap.size + 1]? = some (.cells #[a', b', c', d'] t' (0, 0)) ∧
    Below w.heap.size w ((w.alloc (.cells #[a, b, c, d] t)).alloc (.cells #[a', b', c', d'] t')) ∧ ((w.alloc (.cells #[a, b, c, d] t)).alloc (.cells #[a', b', c', d'] t')).heap.size = w.heap.size + 2 := by
  have h1 := heap_alloc_new w (.cells #[a, b, c, d] t)
  have h2 := heap_alloc_new (w.alloc (.cells #[a, b, c, d] t)) (.cells #[a', b', c', d'] t')
  have e : (w.alloc (.cells #[a, b, c, d] t)).heap.size = w.heap.size + 1 := by simp
  rw [e] at h2
  exact ⟨by rw [Below.heap_alloc _ _ _ (by simp)]; exact h1, h2, (alloc_below w _).alloc (by simp) _, by simp⟩
set_option maxHeartbeats 1000000 in
theorem tw_nil (k n : Int) (s : ByteArray) (lc : Nat) (w : World) (hs : s.size ≤ 140737488355328) : Calls Tryz.prog 17 #[.agg #[.int .i64 k, .int .i64 n, .string s, .slice none 0 lc]] w (TwR (.mk k n s []) w) := by
  go_enter Tryz.func17, Tryz.ntmps17
  go_wp2_with fail
  refine bodyPost_ret (v := .agg #[.int .i64 k, .int .i64 n, .string s, .slice none 0 lc]) (by simp [results, Tryz.results17, go_sem]) rfl ?_
  exact ⟨[.int .i64 k, .int .i64 n, .string s, .slice none 0 lc], [], rfl, ⟨hs, by simp, none, lc, rfl, .inl ⟨rfl, rfl, rfl⟩⟩, by simp, (alloc_below w _).alloc (by simp) _⟩
set_option maxHeartbeats 4000000 in
theorem tw_list (k n : Int) (s : ByteArray) (l : List PT) (a : Addr) (lc : Nat) (w : World) (hs : s.size ≤ 140737488355328) (hl : l.length ≤ 65536) (ih : ∀ p ∈ l, TwFor p) (hsh : shortPs l)
    (hla : l ≠ [] → ∃ b' o', (some a : Option Addr) = some ⟨b', o', none⟩ ∧ InPs w b' o' l) :
    Calls Tryz.prog 17 #[.agg #[.int .i64 k, .int .i64 n, .string s, .slice (some a) l.length lc]] w (TwR (.mk k n s l) w) := by
  have HL := Lib.hid hla
  have HI := Lib.hid ih
  have HSH := Lib.hid hsh
  have HLN := Lib.hid hl
  obtain ⟨i0, hi, hz0, hz1, hz2⟩ := info_parts info24
  have HZ1 := Lib.hid hz1; clear hz1
  have HZ2 := Lib.hid hz2; clear hz2
  have HZ0 := Lib.hid hz0; clear hz0
  have HI0 := Lib.hid hi; clear hi
  clear hla ih hsh
  have hT := two_new w (.int .i64 k) (.int .i64 n) (.string s) (.slice (some a) l.length lc) (.int .i64 0) (.int .i64 0) (.string ⟨#[]⟩) (.slice none 0 0) 27 27
  go_enter Tryz.func17, Tryz.ntmps17
  go_wp2_with (at_make; refine wpList_make_own _ rfl _ _ 25 rfl (w.heap.size + 2) 27 i0 _ 4 Tryz.underlying25 HI0.out HZ0.out HZ1.out .i64 .i64 _ (l.length + 1) rfl rfl rfl (by rw [HZ2.out]; omega) (by unfold maxLen; omega) (by simp) ?_; intro w0 hown0 hgrow0)
  have hB0 : Below (w.heap.size + 2) ((w.alloc (.cells #[.int .i64 k, .int .i64 n, .string s, .slice (some a) l.length lc] 27)).alloc (.cells #[.int .i64 0, .int .i64 0, .string ⟨#[]⟩, .slice none 0 0] 27)) w0 := (Below.refl _ _).grown hgrow0 (by simp) (by simp)
  obtain ⟨hT1, hT2, hT3, hTs⟩ := hT
  have h1 : w0.heap[w.heap.size]? = some (.cells #[.int .i64 k, .int .i64 n, .string s, .slice (some a) l.length lc] 27 (0, 0)) := (hB0.block _ (by omega)).trans hT1
  have h2 : w0.heap[w.heap.size + 1]? = some (.cells #[.int .i64 0, .int .i64 0, .string ⟨#[]⟩, .slice none 0 0] 27 (0, 0)) := (hB0.block _ (by omega)).trans hT2
  have hBw : Below w.heap.size w w0 := hT3.trans (hB0.mono (by omega))
  have hs0 : w.heap.size + 3 ≤ w0.heap.size := by have := (hown0.lt _ rfl).2; simp at this; omega
  rw [hTs] at hown0
  obtain ⟨M, hM⟩ : ∃ M, M = w.heap.size := ⟨_, rfl⟩
  simp only [← hM] at h1 h2 hown0 hs0 ⊢
  have HM := Lib.hid hM
  have HB0 := Lib.hid hBw
  have HO0 := Lib.hid hown0
  have H1 := Lib.hid h1
  have H2 := Lib.hid h2
  have HS0 := Lib.hid hs0
  clear hM hBw hown0 h1 h2 hT1 hT2 hT3 hTs hB0 hgrow0 hs0
  go_loopw [3, 4] (fun sv iv wr => ∃ (i : Nat) (xs : List Value) (bs : List Nat), i ≤ l.length ∧ iv = .int .i64 i ∧ sv = .slice (some ⟨M + 2, 0, none⟩) i (l.length + 1) ∧
      Hid (wr.ownsRow (M + 2) 27 4 (.slice (some ⟨M + 2, 0, none⟩) i (l.length + 1)) i xs) ∧ Hid (TwPs wr (l.take i) xs bs) ∧ Hid (∀ g ∈ bs, M + 2 < g) ∧ Hid (Below (M + 2) w0 wr) ∧ Hid (M + 3 ≤ wr.heap.size))
    (fun _ iv _ => l.length - (intOf iv).toNat)
  case atStart => exact ⟨0, [], [], by omega, rfl, rfl, HO0, Lib.hid ⟨rfl, rfl⟩, Lib.hid (by simp), Lib.hid (Below.refl _ _), HS0⟩
  case round =>
    obtain ⟨i, xs, bs, hil, rfl, rfl, how, htw, hgt, hB, hsz⟩ := hrel
    have k1 := (heapcell ((hB.out.block M (by omega)).trans H1.out) 3).1
    have hBw : Below w.heap.size w wr := HB0.out.trans (hB.out.mono (by have := HM.out; omega))
    have HBw := Lib.hid hBw
    by_cases hlt : i < l.length
    · obtain ⟨b', o', ha, hin⟩ := HL.out (by intro h; subst h; simp at hlt)
      simp only [Option.some.injEq] at ha
      subst ha
      have hp := InPs.get l b' o' i hlt (InPs.below hBw _ _ _ hin)
      rw [Nat.mul_comm] at hp
      obtain ⟨q1, q2, q3, q4, q5, q6, e1, ⟨x0, x1, x2, x3⟩, hx⟩ := arg_of_in hp
      have HC := Lib.hid (HI.out l[i] (List.getElem_mem hlt) wr _ hx (shortPs_get l i hlt HSH.out))
      clear hp hin hx e1 hBw
      go_wp2_with fail
      refine HC.out.mono ?_
      rintro e w1 ⟨cs, cb, rfl, hh, hge, hb1⟩
      obtain ⟨k9, n9, s9, la9, ln9, lc9, rfl⟩ := hh.form
      have HH := Lib.hid hh
      have HGE := Lib.hid hge
      have HB1 := Lib.hid hb1
      have HO1 : Hid (w1.ownsRow (M + 2) 27 4 (.slice (some ⟨M + 2, 0, none⟩) i (l.length + 1)) i xs) := ownsRow_keep how.out (fun g hg => by obtain rfl : M + 2 = g := (by simpa [Value.ownBlock] using hg); exact hb1.block _ (by have := hsz.out; omega))
      clear hh hge hb1
      go_wp2_with (at_builtin; refine wpList_append_fits _ rfl _ _ 25 rfl (M + 2) 27 i0 4 Tryz.underlying25 HI0.out HZ1.out (M + 2) i (l.length + 1) xs rfl ((HO1.out.alloc _).alloc _) ⟨w1.heap.size + 1, 0, none⟩ 1 1 [.int .i64 k9, .int .i64 n9, .string s9, .slice la9 ln9 lc9] rfl rfl ?c1 ?c2 (by omega) ?_)
      case c1 =>
        have h1 := four_new (w1.alloc (.cells #[.int .i64 k9, .int .i64 n9, .string s9, .slice la9 ln9 lc9] 27)) (.int .i64 k9) (.int .i64 n9) (.string s9) (.slice la9 ln9 lc9) 27
        rw [show (w1.alloc (.cells #[.int .i64 k9, .int .i64 n9, .string s9, .slice la9 ln9 lc9] 27)).heap.size = w1.heap.size + 1 from by simp] at h1
        exact h1
      case c2 => intro u hu; simp at hu; rcases hu with rfl | rfl | rfl | rfl <;> rfl
      intro w2 hown2 hgrow2
      have HO2 := Lib.hid hown2
      have HG2 := Lib.hid hgrow2
      clear hown2 hgrow2 k1
      go_wp2_with fail
      go_roundw
      case rel =>
        have hg2 := HG2.out
        have hsz' := hsz.out
        have hs1 := HB1.out.size
        have hold : ∀ b, b < w1.heap.size → b ≠ M + 2 → w2.heap[b]? = w1.heap[b]? := fun b hb hn =>
          ((hg2.block b (by simp; omega) (by simpa using hn)).trans (Below.heap_alloc _ _ _ (by simp; omega))).trans (Below.heap_alloc _ _ _ hb)
        have hh2 : TwPs w2 (l.take (i + 1)) (xs ++ [.int .i64 k9, .int .i64 n9, .string s9, .slice la9 ln9 lc9]) (bs ++ cb) := by
          rw [List.take_succ_eq_append_getElem hlt]
          refine TwPs.snoc _ _ _ _ _ _ (TwPs.keep _ _ _ (fun b hb => ?_) htw.out) (TwP.keep _ _ _ (fun b hb => ?_) HH.out)
          · have h5 := hgt.out b hb
            have h6 := TwPs.lt _ _ _ htw.out b hb
            rw [hold b (by omega) (by omega)]
            exact HB1.out.block b h6
          · have h5 := HGE.out b hb
            have h6 := TwP.lt _ _ _ HH.out b hb
            exact hold b h6 (by omega)
        refine ⟨i + 1, _, _, by omega, by go_num, rfl, HO2, Lib.hid hh2, Lib.hid (fun b hb => ?_), Lib.hid ?_, Lib.hid ?_⟩
        · rcases List.mem_append.1 hb with hb | hb
          · exact hgt.out b hb
          · have h5 := HGE.out b hb; omega
        · exact ((((hB.out.trans (HB1.out.mono (by omega))).alloc (by omega) _).alloc (by simp; omega) _).grown hg2 (by simp; omega) (by simp))
        · have := hg2.size
          simp at this
          omega
      case measure => simp [intOf]; omega
    · obtain rfl : i = l.length := by omega
      have hsub : ((l.length : Int) + 1) - 1 = (l.length : Int) := by omega
      have hsub2 : (l.length : Int) ≤ (l.length : Int) + 1 := by omega
      go_wp2_with (at_builtin; refine wpList_append_fits _ rfl _ _ 25 rfl (M + 2) 27 i0 4 Tryz.underlying25 HI0.out HZ1.out (M + 2) l.length (l.length + 1) xs rfl (how.out.alloc _) ⟨wr.heap.size, 0, none⟩ 1 1 [.int .i64 (-7), .int .i64 0, .string ⟨#[]⟩, .slice none 0 0] rfl rfl (four_new _ _ _ _ _ _) ?c2 (by omega) ?_)
      case c2 => intro u hu; simp at hu; rcases hu with rfl | rfl | rfl | rfl <;> rfl
      intro w2 hown2 hgrow2
      have hsz' := hsz.out
      have hold : ∀ b, b < wr.heap.size → b ≠ M + 2 → w2.heap[b]? = wr.heap[b]? := fun b hb hn =>
          (hgrow2.block b (by simp; omega) (by simpa using hn)).trans (Below.heap_alloc _ _ _ hb)
      have j1 := (hold M (by omega) (by omega)).trans ((hB.out.block M (by omega)).trans H1.out)
      have j2 := (hold (M + 1) (by omega) (by omega)).trans ((hB.out.block (M + 1) (by omega)).trans H2.out)
      have HB2 := Lib.hid ((hB.out.alloc (by omega) _).grown hgrow2 (by simp; omega) (by simp))
      have HO2 := Lib.hid hown2
      have HH2 := Lib.hid (TwPs.keep (w' := w2) _ _ _ (fun b hb => hold b (TwPs.lt _ _ _ htw.out b hb) (by have := hgt.out b hb; omega)) htw.out)
      have hs2 := hgrow2.size
      simp at hs2
      have HS2 := Lib.hid hs2
      obtain ⟨p0, f0⟩ := heapcell j1 0
      obtain ⟨p1, f1⟩ := heapcell j1 1
      obtain ⟨p2, f2⟩ := heapcell j1 2
      obtain ⟨p3, f3⟩ := heapcell j1 3
      obtain ⟨r0, g0⟩ := heapcell j2 0
      obtain ⟨r1, g1⟩ := heapcell j2 1
      obtain ⟨r2, g2⟩ := heapcell j2 2
      obtain ⟨r3, g3⟩ := heapcell j2 3
      clear hold j1 j2 hown2 hgrow2 hs2 hsz' k1 hBw
      go_wp2_with fail
      refine bodyPost_ret (v := .agg #[.int .i64 k, .int .i64 n, .string s, .slice (some ⟨M + 2, 0, none⟩) l.length (l.length + 1)]) (by simp [results, Tryz.results17, go_sem, r0, r1, r2, r3]) rfl ?_
      have hm := HM.out
      have hln := HLN.out
      have hw4 : ∀ b, b ≠ M → b ≠ M + 1 → (((((w2.setCell ⟨M, 3, none⟩ (.slice (some ⟨M + 2, 0, none⟩) l.length (l.length + 1))).setCell ⟨M + 1, 0, none⟩ (.int .i64 k)).setCell ⟨M + 1, 1, none⟩ (.int .i64 n)).setCell ⟨M + 1, 2, none⟩ (.string s)).setCell ⟨M + 1, 3, none⟩ (.slice (some ⟨M + 2, 0, none⟩) l.length (l.length + 1))).heap[b]? = w2.heap[b]? := fun b hb hb1 => by
        rw [heap_set_ne _ hb1, heap_set_ne _ hb1, heap_set_ne _ hb1, heap_set_ne _ hb1, heap_set_ne _ hb]
      have hB2 := HB0.out.trans (HB2.out.mono (by omega))
      have hcells := HO2.out.cells (g := M + 2) rfl
      have hxl := HH2.out.len
      rw [List.take_length] at hxl
      refine ⟨[.int .i64 k, .int .i64 n, .string s, .slice (some ⟨M + 2, 0, none⟩) l.length (l.length + 1)], (M + 2) :: bs, rfl, ⟨hs, by omega, some ⟨M + 2, 0, none⟩, l.length + 1, rfl, .inr ⟨M + 2, xs, bs, rfl, rfl, fun j v hv => ?_, ?_, rfl⟩⟩, fun b hb => ?_, ?_⟩
      · rw [cellOf_heap (hw4 (M + 2) (by omega) (by omega))]
        have := hcells j v (by
          rw [show ([.int .i64 (-7), .int .i64 0, .string ⟨#[]⟩, .slice none 0 0] : List Value) = [.int .i64 (-7)] ++ [.int .i64 0, .string ⟨#[]⟩, .slice none 0 0] from rfl, ← List.append_assoc]
          exact left_get hv)
        rwa [show (⟨M + 2, 0, none⟩ : Addr).add j = ⟨M + 2, j, none⟩ from by unfold Addr.add; split <;> simp_all] at this
      · have hh := HH2.out
        rw [List.take_length] at hh
        exact TwPs.keep _ _ _ (fun b hb => hw4 b (by have := hgt.out b hb; omega) (by have := hgt.out b hb; omega)) hh
      · rcases List.mem_cons.1 hb with rfl | hb
        · omega
        · have := hgt.out b hb; omega
      · exact ⟨hB2.os, hB2.tape, hB2.output, by have := hB2.size; simpa [World.setCell] using this, fun b hb => (hw4 b (by omega) (by omega)).trans (hB2.block b hb)⟩
mutual
/-- 'Twin': a plain value in memory of its own, a mark behind each list. -/
theorem tw_any : ∀ p : PT, TwFor p
  | .mk k n s l => fun w v hv hsh => by
    obtain ⟨hs, _, la, lc, rfl, hla⟩ := hv
    cases la with
    | none =>
      have hl : l = [] := Classical.byContradiction fun h => by
        obtain ⟨_, _, e, _⟩ := hla h
        cases e
      subst hl
      exact tw_nil k n s lc w hs
    | some a => exact tw_list k n s l a lc w hs hsh.1 (tw_anys l) hsh.2 hla
theorem tw_anys : ∀ l : List PT, ∀ p ∈ l, TwFor p
  | [], p, h => by simp at h
  | q :: r, p, h => by
    rcases List.mem_cons.1 h with h | h
    · rw [h]; exact tw_any q
    · exact tw_anys r p h
end
end

section
open Go.RowKit
set_option maxRecDepth 100000
set_option maxHeartbeats 1000000 in
theorem fits_err (w : World) (c : Int) (hc : c ≠ 0) (p : PT) (u : Value) (hu : ArgP w p u) : Calls Tryz.prog 18 #[.nilIface, .int .i64 c, u, .int .i64 c] w (RetB w (.bool true)) := by
  cases p with
  | mk k n s l =>
    obtain ⟨_, _, la, lc, rfl, _⟩ := hu
    have hb : (c != 0) = true := by simpa using hc
    clear hc
    go_enter Tryz.func18, Tryz.ntmps18
    go_wp2_with fail
    go_ret
    exact ⟨rfl, alloc_below w _⟩
set_option maxHeartbeats 1000000 in
theorem fits_val (t : VT) (p : PT) (w : World) (v u : Value) (vb : List Nat) (hv : RepV w t v vb) (hp : plainOf t = p) (hu : ArgP w p u) (hn : nodesV t ≤ 70000) (hd : depV t ≤ 70) (ht : txtV t) : Calls Tryz.prog 18 #[v, .int .i64 0, u, .int .i64 0] w (RetB w (.bool true)) := by
  cases p with
  | mk k n s l =>
    have g := hu
    obtain ⟨_, _, la, lc, rfl, _⟩ := g
    have HV := Lib.hid hv
    have HU := Lib.hid hu
    have HP := Lib.hid hp
    have HT := Lib.hid ht
    have HN := Lib.hid hn
    have HD := Lib.hid hd
    clear hv hu hp ht hn hd
    go_enter Tryz.func18, Tryz.ntmps18
    go_wp2_with fail
    have hb := alloc_below w (.cells #[.int .i64 k, .int .i64 n, .string s, .slice la l.length lc] 27)
    refine (is_any t (.mk k n s l) _ _ _ vb (RepV.keep _ _ _ (fun g hg => hb.block g (RepV.lt _ _ _ HV.out g hg)) HV.out) HP.out (HU.out.below hb) HN.out HD.out HT.out).mono ?_
    rintro e w1 ⟨rfl, hb1⟩
    go_wp2_with fail
    go_ret
    exact ⟨rfl, hb.trans (hb1.mono hb.size)⟩
end
end Go.Proofs.YtkpnnhebfaggeaaGreatDoor
