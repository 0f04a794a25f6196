/-
  The reader of values and lists, Read, and begun.
  Conditions: none.
-/
import Derived.Test.YtkpnnhebfaggeaaDoorKitC
import Derived.Maps.AppendAt
import Derived.Test.YtkpnnhebfaggeaaDoorKitA
import Derived.Recover
import Derived.RegionTactic
import Derived.Deep.RegionHeld3
import Derived.Test.YtkpnnhebfaggeaaDoorKitB
import Derived.KernelRfl
namespace Go.Proofs.YtkpnnhebfaggeaaDoor
section
open Go.RowKit
set_option maxRecDepth 100000
def RdVal (r : Nat) (s : ByteArray) (k : Nat) : Prop := ∀ (a z deep : Nat) (w : World), RD r s a z w → a ≤ s.size → z ≤ a → 3 * (s.size - a) + 3 ≤ k → deep ≤ 64 → Tabs w → 5 ≤ w.heap.size →
  Calls Tryd.prog 35 #[.pointer (some ⟨r, 0, none⟩), .int .i64 deep] w (ValQ r s w (valR s k a z deep))
def RdList (r : Nat) (s : ByteArray) (k : Nat) : Prop := ∀ (a z deep : Nat) (w : World), RD r s a z w → a < s.size → z ≤ a + 1 → 3 * (s.size - a) + 2 ≤ k → deep ≤ 64 → Tabs w → 5 ≤ w.heap.size →
  Calls Tryd.prog 51 #[.pointer (some ⟨r, 0, none⟩), .int .i64 deep] w (ValQ r s w (listR s k a z deep))
set_option maxHeartbeats 4000000 in
theorem rval_step (r : Nat) (s : ByteArray) (k : Nat) (hs : s.size ≤ 1048576) (hr : 5 ≤ r) (ihl : RdList r s k) : RdVal r s (k + 1) := by
  intro a z deep w h ha hz hk hd ht h5
  have H := Lib.hid h
  have HT := Lib.hid ht
  have HL := Lib.hid ihl
  obtain ⟨c0, c1, c2, f1, f2⟩ := h.cells
  clear h ht ihl
  have HR1 := Lib.hid (H.out.to2 (z + 1))
  have HK1 := Lib.hid (KB.set (r := r) (w := w) 2 (.int .i64 (z + 1 : Nat)))
  by_cases hend : a = s.size
  · have he : valR s (k + 1) a z deep = numR s a (z + 1) := by rw [valR, at_none hend]
    have HE := Lib.hid he
    have HE1 : Hid (RD r s s.size (z + 1) (w.setCell ⟨r, 2, none⟩ (.int .i64 (z + 1 : Nat)))) := by rw [← hend]; exact HR1
    clear he
    have HEN := Lib.hid hend
    clear hend
    go_enter Tryd.func35, Tryd.ntmps35
    go_wp2_with fail
    refine (next_end r s (z + 1) _ HE1.out hs).mono ?_
    rintro e w1 ⟨rfl, m, rfl⟩
    have HK2 := Lib.hid (HK1.out.trans (KB.drewN m))
    go_wp2_with fail
    refine (number_any r s a (z + 1) _ (HR1.out.drewN m) ha hs (HT.out.below (HK2.out.below hr h5) (Nat.le_refl 5)) (Nat.le_trans h5 HK2.out.size) hr).mono ?_
    cases hn : numR s a (z + 1) with
    | error pc =>
      obtain ⟨p, c⟩ := pc
      intro e w2 hq
      obtain ⟨he, hk2⟩ : ValP r s _ (.error (p, c)) e w2 := hq
      cases he
      go_wp2_with fail
      refine ⟨rfl, ?_⟩
      show ValP _ _ _ _ _ _
      rw [HE.out, hn]
      exact ⟨rfl, HK2.out.trans hk2⟩
    | ok taz =>
      obtain ⟨t, a', z'⟩ := taz
      intro e w2 hq
      obtain ⟨v, bs, rfl, hv, hnd, hge, hrd, hk2⟩ : ValP r s _ (.ok (t, a', z')) e w2 := hq
      have HV := Lib.hid hv
      have HG := Lib.hid hge
      have HND := Lib.hid hnd
      have HN := Lib.hid hn
      clear hv hge hnd hn
      go_wp2_with fail
      go_ret
      show ValP _ _ _ _ _ _
      rw [HE.out, HN.out]
      exact ⟨v, bs, rfl, HV.out, HND.out, fun g hg => Nat.le_trans HK2.out.size (HG.out g hg), hrd, HK2.out.trans hk2⟩
  · have hlt : a < s.size := by omega
    have HRN : ∀ m, RD r s a (z + 1) ((w.setCell ⟨r, 2, none⟩ (.int .i64 (z + 1 : Nat))).drewN m) := fun m => HR1.out.drewN m
    have HKN : ∀ m, KB r w ((w.setCell ⟨r, 2, none⟩ (.int .i64 (z + 1 : Nat))).drewN m) := fun m => HK1.out.trans (KB.drewN m)
    have HRN := Lib.hid HRN
    have HKN := Lib.hid HKN
    by_cases h117 : s[a].toNat = 117
    · have b117 : ((s[a].toNat : Int) == 117) = true := by rw [h117]; rfl
      have he : valR s (k + 1) a z deep = wordV .unit (z + 1) (wordR s.data.toList [117, 110, 105, 116] a) := by rw [valR, at_some hlt]; simp only; rw [if_pos h117]
      have HE := Lib.hid he
      clear he
      have HB := Lib.hid h117
      clear h117
      go_enter Tryd.func35, Tryd.ntmps35
      go_wp2_with fail
      refine (next_byte r s a (z + 1) _ HR1.out hs hlt).mono ?_
      rintro e w1 ⟨rfl, m, rfl⟩
      go_wp2_with fail
      refine (word_any r s a (z + 1) _ _ (HRN.out m) ha hs (by decide)).mono ?_
      cases hn : wordR s.data.toList [117, 110, 105, 116] a with
      | error p =>
        intro e w2 hq
        obtain ⟨he, hk2⟩ : WordP r s (z + 1) _ (.error p) e w2 := hq
        cases he
        go_wp2_with fail
        refine ⟨rfl, ?_⟩
        show ValP _ _ _ _ _ _
        rw [HE.out, hn]
        exact ⟨rfl, (HKN.out m).trans hk2⟩
      | ok a' =>
        intro e w2 hq
        obtain ⟨rfl, hrd, hk2⟩ : WordP r s (z + 1) _ (.ok a') e w2 := hq
        have HNN := Lib.hid hn
        have HRD := Lib.hid hrd
        clear hn hrd
        go_wp2_with fail
        go_ret
        show ValP _ _ _ _ _ _
        rw [HE.out, HNN.out]
        exact ⟨_, [], rfl, ⟨rfl, rfl⟩, by simp, by simp, HRD.out, (HKN.out m).trans hk2⟩
    · skip
      by_cases h121 : s[a].toNat = 121
      · have b121 : ((s[a].toNat : Int) == 121) = true := by rw [h121]; rfl
        have b117 : ((s[a].toNat : Int) == 117) = false := by simp only [beq_eq_false_iff_ne, ne_eq]; omega
        have he : valR s (k + 1) a z deep = wordV (.truth true) (z + 1) (wordR s.data.toList [121, 101, 115] a) := by rw [valR, at_some hlt]; simp only; rw [if_neg h117, if_pos h121]
        have HE := Lib.hid he
        clear he
        have HB := Lib.hid h121
        clear h117 h121
        go_enter Tryd.func35, Tryd.ntmps35
        go_wp2_with fail
        refine (next_byte r s a (z + 1) _ HR1.out hs hlt).mono ?_
        rintro e w1 ⟨rfl, m, rfl⟩
        go_wp2_with fail
        refine (word_any r s a (z + 1) _ _ (HRN.out m) ha hs (by decide)).mono ?_
        cases hn : wordR s.data.toList [121, 101, 115] a with
        | error p =>
          intro e w2 hq
          obtain ⟨he, hk2⟩ : WordP r s (z + 1) _ (.error p) e w2 := hq
          cases he
          go_wp2_with fail
          refine ⟨rfl, ?_⟩
          show ValP _ _ _ _ _ _
          rw [HE.out, hn]
          exact ⟨rfl, (HKN.out m).trans hk2⟩
        | ok a' =>
          intro e w2 hq
          obtain ⟨rfl, hrd, hk2⟩ : WordP r s (z + 1) _ (.ok a') e w2 := hq
          have HNN := Lib.hid hn
          have HRD := Lib.hid hrd
          clear hn hrd
          go_wp2_with fail
          go_ret
          show ValP _ _ _ _ _ _
          rw [HE.out, HNN.out]
          exact ⟨_, [], rfl, ⟨rfl, rfl⟩, by simp, by simp, HRD.out, (HKN.out m).trans hk2⟩
      · skip
        by_cases h110 : s[a].toNat = 110
        · have b110 : ((s[a].toNat : Int) == 110) = true := by rw [h110]; rfl
          have b117 : ((s[a].toNat : Int) == 117) = false := by simp only [beq_eq_false_iff_ne, ne_eq]; omega
          have b121 : ((s[a].toNat : Int) == 121) = false := by simp only [beq_eq_false_iff_ne, ne_eq]; omega
          have he : valR s (k + 1) a z deep = wordV (.truth false) (z + 1) (wordR s.data.toList [110, 111] a) := by rw [valR, at_some hlt]; simp only; rw [if_neg h117, if_neg h121, if_pos h110]
          have HE := Lib.hid he
          clear he
          have HB := Lib.hid h110
          clear h117 h121 h110
          go_enter Tryd.func35, Tryd.ntmps35
          go_wp2_with fail
          refine (next_byte r s a (z + 1) _ HR1.out hs hlt).mono ?_
          rintro e w1 ⟨rfl, m, rfl⟩
          go_wp2_with fail
          refine (word_any r s a (z + 1) _ _ (HRN.out m) ha hs (by decide)).mono ?_
          cases hn : wordR s.data.toList [110, 111] a with
          | error p =>
            intro e w2 hq
            obtain ⟨he, hk2⟩ : WordP r s (z + 1) _ (.error p) e w2 := hq
            cases he
            go_wp2_with fail
            refine ⟨rfl, ?_⟩
            show ValP _ _ _ _ _ _
            rw [HE.out, hn]
            exact ⟨rfl, (HKN.out m).trans hk2⟩
          | ok a' =>
            intro e w2 hq
            obtain ⟨rfl, hrd, hk2⟩ : WordP r s (z + 1) _ (.ok a') e w2 := hq
            have HNN := Lib.hid hn
            have HRD := Lib.hid hrd
            clear hn hrd
            go_wp2_with fail
            go_ret
            show ValP _ _ _ _ _ _
            rw [HE.out, HNN.out]
            exact ⟨_, [], rfl, ⟨rfl, rfl⟩, by simp, by simp, HRD.out, (HKN.out m).trans hk2⟩
        · skip
          by_cases h34 : s[a].toNat = 34
          · have b34 : ((s[a].toNat : Int) == 34) = true := by rw [h34]; rfl
            have b117 : ((s[a].toNat : Int) == 117) = false := by simp only [beq_eq_false_iff_ne, ne_eq]; omega
            have b121 : ((s[a].toNat : Int) == 121) = false := by simp only [beq_eq_false_iff_ne, ne_eq]; omega
            have b110 : ((s[a].toNat : Int) == 110) = false := by simp only [beq_eq_false_iff_ne, ne_eq]; omega
            have he : valR s (k + 1) a z deep = textV (z + 1) (textF s.data.toList (s.size + 1) (a + 1) []) := by rw [valR, at_some hlt]; simp only; rw [if_neg h117, if_neg h121, if_neg h110, if_pos h34]
            have HE := Lib.hid he
            clear he
            have HB := Lib.hid h34
            clear h117 h121 h110 h34
            go_enter Tryd.func35, Tryd.ntmps35
            go_wp2_with fail
            refine (next_byte r s a (z + 1) _ HR1.out hs hlt).mono ?_
            rintro e w1 ⟨rfl, m, rfl⟩
            go_wp2_with fail
            refine (rtext_any r s a (z + 1) _ (HRN.out m) hlt hs (by omega)).mono ?_
            cases hn : textV (z + 1) (textF s.data.toList (s.size + 1) (a + 1) []) with
            | error pc =>
              obtain ⟨p, c⟩ := pc
              intro e w2 hq
              obtain ⟨he, hk2⟩ : ValP r s _ (.error (p, c)) e w2 := hq
              cases he
              go_wp2_with fail
              refine ⟨rfl, ?_⟩
              show ValP _ _ _ _ _ _
              rw [HE.out, hn]
              exact ⟨rfl, (HKN.out m).trans hk2⟩
            | ok taz =>
              obtain ⟨t, a', z'⟩ := taz
              intro e w2 hq
              obtain ⟨v, bs, rfl, hv, hnd, hge, hrd, hk2⟩ : ValP r s _ (.ok (t, a', z')) e w2 := hq
              have HV := Lib.hid hv
              have HG := Lib.hid hge
              have HND := Lib.hid hnd
              have HNN := Lib.hid hn
              clear hv hge hnd hn
              go_wp2_with fail
              go_ret
              show ValP _ _ _ _ _ _
              rw [HE.out, HNN.out]
              exact ⟨v, bs, rfl, HV.out, HND.out, fun g hg => Nat.le_trans (HKN.out m).size (HG.out g hg), hrd, (HKN.out m).trans hk2⟩
          · skip
            by_cases h91 : s[a].toNat = 91
            · have b91 : ((s[a].toNat : Int) == 91) = true := by rw [h91]; rfl
              have b117 : ((s[a].toNat : Int) == 117) = false := by simp only [beq_eq_false_iff_ne, ne_eq]; omega
              have b121 : ((s[a].toNat : Int) == 121) = false := by simp only [beq_eq_false_iff_ne, ne_eq]; omega
              have b110 : ((s[a].toNat : Int) == 110) = false := by simp only [beq_eq_false_iff_ne, ne_eq]; omega
              have b34 : ((s[a].toNat : Int) == 34) = false := by simp only [beq_eq_false_iff_ne, ne_eq]; omega
              have he : valR s (k + 1) a z deep = listR s k a (z + 1) deep := by rw [valR, at_some hlt]; simp only; rw [if_neg h117, if_neg h121, if_neg h110, if_neg h34, if_pos h91]
              have HE := Lib.hid he
              clear he
              have HB := Lib.hid h91
              clear h117 h121 h110 h34 h91
              go_enter Tryd.func35, Tryd.ntmps35
              go_wp2_with fail
              refine (next_byte r s a (z + 1) _ HR1.out hs hlt).mono ?_
              rintro e w1 ⟨rfl, m, rfl⟩
              go_wp2_with fail
              refine (HL.out a (z + 1) deep _ (HRN.out m) hlt (by omega) (by omega) hd (HT.out.below ((HKN.out m).below hr h5) (Nat.le_refl 5)) (Nat.le_trans h5 (HKN.out m).size)).mono ?_
              cases hn : listR s k a (z + 1) deep with
              | error pc =>
                obtain ⟨p, c⟩ := pc
                intro e w2 hq
                obtain ⟨he, hk2⟩ : ValP r s _ (.error (p, c)) e w2 := hq
                cases he
                go_wp2_with fail
                refine ⟨rfl, ?_⟩
                show ValP _ _ _ _ _ _
                rw [HE.out, hn]
                exact ⟨rfl, (HKN.out m).trans hk2⟩
              | ok taz =>
                obtain ⟨t, a', z'⟩ := taz
                intro e w2 hq
                obtain ⟨v, bs, rfl, hv, hnd, hge, hrd, hk2⟩ : ValP r s _ (.ok (t, a', z')) e w2 := hq
                have HV := Lib.hid hv
                have HG := Lib.hid hge
                have HND := Lib.hid hnd
                have HNN := Lib.hid hn
                clear hv hge hnd hn
                go_wp2_with fail
                go_ret
                show ValP _ _ _ _ _ _
                rw [HE.out, HNN.out]
                exact ⟨v, bs, rfl, HV.out, HND.out, fun g hg => Nat.le_trans (HKN.out m).size (HG.out g hg), hrd, (HKN.out m).trans hk2⟩
            · skip
              have b117 : ((s[a].toNat : Int) == 117) = false := by simp only [beq_eq_false_iff_ne, ne_eq]; omega
              have b121 : ((s[a].toNat : Int) == 121) = false := by simp only [beq_eq_false_iff_ne, ne_eq]; omega
              have b110 : ((s[a].toNat : Int) == 110) = false := by simp only [beq_eq_false_iff_ne, ne_eq]; omega
              have b34 : ((s[a].toNat : Int) == 34) = false := by simp only [beq_eq_false_iff_ne, ne_eq]; omega
              have b91 : ((s[a].toNat : Int) == 91) = false := by simp only [beq_eq_false_iff_ne, ne_eq]; omega
              have he : valR s (k + 1) a z deep = numR s a (z + 1) := by rw [valR, at_some hlt]; simp only; rw [if_neg h117, if_neg h121, if_neg h110, if_neg h34, if_neg h91]
              have HE := Lib.hid he
              clear he
              clear h117 h121 h110 h34 h91
              go_enter Tryd.func35, Tryd.ntmps35
              go_wp2_with fail
              refine (next_byte r s a (z + 1) _ HR1.out hs hlt).mono ?_
              rintro e w1 ⟨rfl, m, rfl⟩
              go_wp2_with fail
              refine (number_any r s a (z + 1) _ (HRN.out m) ha hs (HT.out.below ((HKN.out m).below hr h5) (Nat.le_refl 5)) (Nat.le_trans h5 (HKN.out m).size) hr).mono ?_
              cases hn : numR s a (z + 1) with
              | error pc =>
                obtain ⟨p, c⟩ := pc
                intro e w2 hq
                obtain ⟨he, hk2⟩ : ValP r s _ (.error (p, c)) e w2 := hq
                cases he
                go_wp2_with fail
                refine ⟨rfl, ?_⟩
                show ValP _ _ _ _ _ _
                rw [HE.out, hn]
                exact ⟨rfl, (HKN.out m).trans hk2⟩
              | ok taz =>
                obtain ⟨t, a', z'⟩ := taz
                intro e w2 hq
                obtain ⟨v, bs, rfl, hv, hnd, hge, hrd, hk2⟩ : ValP r s _ (.ok (t, a', z')) e w2 := hq
                have HV := Lib.hid hv
                have HG := Lib.hid hge
                have HND := Lib.hid hnd
                have HNN := Lib.hid hn
                clear hv hge hnd hn
                go_wp2_with fail
                go_ret
                show ValP _ _ _ _ _ _
                rw [HE.out, HNN.out]
                exact ⟨v, bs, rfl, HV.out, HND.out, fun g hg => Nat.le_trans (HKN.out m).size (HG.out g hg), hrd, (HKN.out m).trans hk2⟩
end

section
open Go.RowKit
set_option maxRecDepth 100000
theorem RD.old {r : Nat} {s : ByteArray} {a z : Nat} {w w' : World} (h : RD r s a z w) (hb : w'.heap[r]? = w.heap[r]?) : RD r s a z w' := by unfold RD at *; rw [hb]; exact h
set_option maxHeartbeats 8000000 in
theorem rlist_step (r : Nat) (s : ByteArray) (k : Nat) (hs : s.size ≤ 1048576) (hr : 5 ≤ r) (ih : ∀ j, j < k → RdVal r s j) : RdList r s k := by
  intro a z deep w h ha hz hk hd ht h5
  obtain ⟨k, rfl⟩ : ∃ j, k = j + 1 := ⟨k - 1, by omega⟩
  have H := Lib.hid h
  have HT := Lib.hid ht
  have HI := Lib.hid ih
  obtain ⟨c0, c1, c2, f1, f2⟩ := h.cells
  clear h ht ih
  by_cases h64 : deep = 64
  · have he : listR s (k + 1) a z deep = .error (a, 2) := by rw [listR, if_pos h64]
    have HE := Lib.hid he
    have b64 : ((deep : Int) == 64) = true := by rw [h64]; rfl
    have H64 := Lib.hid h64
    clear he h64
    go_enter Tryd.func51, Tryd.ntmps51
    go_wp2_with fail
    refine (wrong_any r _ _ _).mono ?_
    rintro e w1 ⟨he, rfl⟩
    cases he
    go_wp2_with fail
    refine ⟨rfl, ?_⟩
    show ValP _ _ _ _ _ _
    rw [HE.out]
    exact ⟨rfl, KB.refl _ _⟩
  · have b64 : ((deep : Int) == 64) = false := by simp only [beq_eq_false_iff_ne, ne_eq]; omega
    have hd' : (deep : Int) < 64 := by omega
    have HR1 := Lib.hid (H.out.to1 (a + 1))
    have HK1 := Lib.hid (KB.set (r := r) (w := w) 1 (.int .i64 (a + 1 : Nat)))
    obtain ⟨N, hN⟩ : ∃ N, N = w.heap.size := ⟨_, rfl⟩
    have HN := Lib.hid hN
    clear hN
    obtain ⟨i0, hi, hz0, hz1, hz2⟩ := info_parts info30
    have HI0 := Lib.hid hi
    have HZ0 := Lib.hid hz0
    have HZ1 := Lib.hid hz1
    have HZ2 := Lib.hid hz2
    clear hi hz0 hz1 hz2
    have hrow : ((w.setCell ⟨r, 1, none⟩ (.int .i64 (a + 1 : Nat))).alloc (.cells #[] 30)).ownsRow N 30 1 (.slice (some ⟨w.heap.size, 0, none⟩) 0 0) 0 [] := by
      have e1 : (w.setCell ⟨r, 1, none⟩ (.int .i64 (a + 1 : Nat))).heap.size = w.heap.size := by simp [World.setCell]
      have := World.ownsRow_made (base := N) (size := 1) (e := 30) (w.setCell ⟨r, 1, none⟩ (.int .i64 (a + 1 : Nat))) #[] 0 (by rw [e1, HN.out]; exact Nat.le_refl _) (by unfold maxLen; omega) rfl
      rwa [e1] at this
    have HRW := Lib.hid hrow
    have hrd0 : RD r s (a + 1) z ((w.setCell ⟨r, 1, none⟩ (.int .i64 (a + 1 : Nat))).alloc (.cells #[] 30)) := HR1.out.old (Below.heap_alloc _ _ _ HR1.out.lt)
    have HRD0 := Lib.hid hrd0
    have HK0 := Lib.hid (HK1.out.trans (KB.of_below (alloc_below' _ (.cells #[] 30))))
    clear hrow hrd0
    by_cases hend : a + 1 = s.size
    · have he : listR s (k + 1) a z deep = elemsR s k (a + 1) z deep [] := by rw [listR, if_neg h64, if_neg (by rw [at_none hend]; simp)]
      have HE := Lib.hid he
      have HRE0 : Hid (RD r s s.size z ((w.setCell ⟨r, 1, none⟩ (.int .i64 (a + 1 : Nat))).alloc (.cells #[] 30))) := by rw [← hend]; exact HRD0
      have HEN := Lib.hid hend
      clear he hend
      have ha1 : a + 1 ≤ s.size := by omega
      go_enter Tryd.func51, Tryd.ntmps51
      go_wp2_with fail
      refine (next_end r s z _ HRE0.out hs).mono ?_
      rintro e w1 ⟨rfl, m, rfl⟩
      go_wp2_with fail
      go_loopw [5] (fun u wr => ∃ (q p y : Nat) (acc : List VT) (lv : Value) (vs : List Value) (bs : List Nat), lv = u ∧ q ≤ k ∧ p ≤ s.size ∧ y ≤ p ∧ acc.length ≤ p ∧ 3 * (s.size - p) + 4 ≤ q ∧ Hid (wr.ownsRow N 30 1 lv acc.length vs) ∧ Hid (RepVs wr acc vs bs) ∧ Hid (∀ g, lv.ownBlock = some g → g ∉ bs) ∧ Hid bs.Nodup ∧ Hid (∀ g ∈ bs, N ≤ g) ∧
          Hid (RD r s p y wr) ∧ Hid (KB r w wr) ∧ Hid (elemsR s q p y deep acc = elemsR s k (a + 1) z deep [])) (fun _ wr => s.size + 1 - rdAt r wr)
      case atStart => exact ⟨k, a + 1, z, [], _, [], [], rfl, by omega, by omega, by omega, by simp, by omega, HRW, Lib.hid ⟨rfl, rfl⟩, Lib.hid (by simp), Lib.hid (by simp), Lib.hid (by simp), Lib.hid (HRD0.out.drewN m), Lib.hid (HK0.out.trans (KB.drewN m)), Lib.hid rfl⟩
      case round =>
        obtain ⟨q, p, y, acc, lv, vs, bs, rfl, hqk, hp, hy, hacc, hq, hown, hrep, hdis, hnd, hge, hrd, hkb, heq⟩ := hrel
        obtain ⟨q, rfl⟩ : ∃ j, q = j + 1 := ⟨q - 1, by omega⟩
        have hdI : (deep : Int) + 1 = ((deep + 1 : Nat) : Int) := by omega
        have HDI := Lib.hid hdI
        clear hdI
        go_wp2_with fail
        rw [show (Value.int IntKind.i64 ((deep : Int) + 1)) = .int .i64 ((deep + 1 : Nat) : Int) from by rw [HDI.out]]
        refine (HI.out q (by omega) p y (deep + 1) wr hrd.out hp hy (by omega) (by omega) (HT.out.below (hkb.out.below hr h5) (Nat.le_refl 5)) (Nat.le_trans h5 hkb.out.size)).mono ?_
        cases hv : valR s q p y (deep + 1) with
        | error pc =>
          obtain ⟨p', c⟩ := pc
          intro e w2 hqq
          obtain ⟨he, hk2⟩ : ValP r s _ (.error (p', c)) e w2 := hqq
          have HV := Lib.hid hv
          clear hv
          cases he
          go_wp2_with fail
          refine ⟨rfl, ?_⟩
          show ValP _ _ _ _ _ _
          rw [HE.out, ← heq.out, elemsR, HV.out]
          exact ⟨rfl, hkb.out.trans hk2⟩
        | ok taz =>
          obtain ⟨t, p', y'⟩ := taz
          have hbd := valR_bd q p y (deep + 1) t p' y' hp hy hv
          have HV := Lib.hid hv
          clear hv
          obtain ⟨hb0, hb1, hb2⟩ := hbd
          intro e w2 hqq
          obtain ⟨v, cs, rfl, hrv, hnd2, hge2, hrd2, hk2⟩ : ValP r s _ (.ok (t, p', y')) e w2 := hqq
          obtain ⟨ty, tu, rfl⟩ := hrv.iface
          have hgr : ∀ g, lv.ownBlock = some g → N ≤ g ∧ g < wr.heap.size := fun g hg => hown.out.lt g hg
          have hrN : r < N := by have := H.out.lt; have := HN.out; omega
          have HO2 : Hid (w2.ownsRow N 30 1 lv acc.length vs) := ownsRow_keep hown.out (fun g hg => hk2.block g (hgr g hg).2 (by have := hgr g hg; simp; omega))
          have HP2 : Hid (RepVs w2 acc vs bs) := RepVs.keep _ _ _ (fun g hg => hk2.block g (RepVs.lt _ _ _ hrep.out g hg) (by have := hge.out g hg; simp; omega)) hrep.out
          have HV2 := Lib.hid hrv
          have HN2 := Lib.hid hnd2
          have HG2 := Lib.hid hge2
          have HR2 := Lib.hid hrd2
          have HK2 := Lib.hid (hkb.out.trans hk2)
          have HKW := Lib.hid hk2
          have HGR := Lib.hid hgr
          clear hrv hnd2 hge2 hrd2 hk2 hgr
          go_wp2_with (at_builtin; refine wpList_append_own_at _ rfl _ _ 61 rfl N 30 i0 .nilIface 1 16 Tryd.underlying61 HI0.out HZ0.out HZ1.out HZ2.out rfl (by decide) _ _ _ rfl (HO2.out.alloc _) ⟨w2.heap.size, 0, none⟩ 1 1 [.iface ty tu] rfl rfl ?c1 ?c2 ?c3 ?c4 ?c5 ?_)
          case c1 => exact one_new _ _ _
          case c2 => intro u hu; simp at hu; subst hu; rfl
          case c3 => unfold maxLen; omega
          case c4 => omega
          case c5 => have h1 := HN.out; have h2 := HK2.out.size; simp; omega
          intro lv' w3 hown' hgrow _ hblk
          have hs2 := HKW.out.size
          have hs3 := hgrow.size
          simp at hs3
          have hne : ∀ g, lv.ownBlock = some g → g ≠ r := fun g hg => by have := HGR.out g hg; omega
          have hold : ∀ g, g < w2.heap.size → lv.ownBlock ≠ some g → w3.heap[g]? = w2.heap[g]? := fun g hg hn => by
            rw [hgrow.block g (by simp; omega) (fun e => hn e.symm), Below.heap_alloc _ _ _ hg]
          have HR3 : Hid (RD r s p' y' w3) := HR2.out.old (hold r HR2.out.lt (fun e => hne r e rfl))
          have HK3 : Hid (KB r w w3) := by
            have h1 := HK2.out
            have h2 := HN.out
            refine ⟨hgrow.os.trans h1.os, hgrow.tape.trans h1.tape, hgrow.output.trans h1.output, by have := h1.size; omega, fun g hg hgr => ?_⟩
            rw [hold g (by have := h1.size; omega) (fun e => by have h3 := (HGR.out g e).1; omega)]
            exact h1.block g hg hgr
          have HO3 : Hid (w3.ownsRow N 30 1 lv' (acc ++ [t]).length (vs ++ [.iface ty tu])) := by
            show w3.ownsRow N 30 1 lv' (acc ++ [t]).length _
            simpa using hown'
          have HP3 : Hid (RepVs w3 (acc ++ [t]) (vs ++ [.iface ty tu]) (bs ++ cs)) :=
            RepVs.snoc _ _ _ _ _ _ (RepVs.keep _ _ _ (fun g hg => hold g (RepVs.lt _ _ _ HP2.out g hg) (fun e => hdis.out g e hg)) HP2.out)
              (RepV.keep _ _ _ (fun g hg => hold g (RepV.lt _ _ _ HV2.out g hg) (fun e => by have h3 := (HGR.out g e).2; have h4 := HG2.out g hg; omega)) HV2.out)
          have HD3 : Hid (∀ g, lv'.ownBlock = some g → g ∉ bs ++ cs) := by
            intro g hg hm
            rcases hblk with hb | hb
            · rw [hg] at hb
              rcases List.mem_append.1 hm with hm | hm
              · exact hdis.out g hb.symm hm
              · have h3 := (HGR.out g hb.symm).2
                have h4 := HG2.out g hm
                omega
            · rw [hg] at hb
              have hb : g = w2.heap.size + 1 := by simpa using hb
              rcases List.mem_append.1 hm with hm | hm
              · have := RepVs.lt _ _ _ HP2.out g hm; omega
              · have := RepV.lt _ _ _ HV2.out g hm; omega
          have HN3 : Hid (bs ++ cs).Nodup := List.nodup_append.2 ⟨hnd.out, HN2.out, fun x hx y hy e => by
            have h3 := RepVs.lt _ _ _ hrep.out x hx
            have h4 := HG2.out y hy
            omega⟩
          have HG3 : Hid (∀ g ∈ bs ++ cs, N ≤ g) := by
            intro g hg
            rcases List.mem_append.1 hg with hg | hg
            · exact hge.out g hg
            · have := HG2.out g hg; have := hkb.out.size; have := HN.out; omega
          clear hown' hgrow hblk hne hold hs3 hs2
          obtain ⟨d0, d1, d2, g1, g2⟩ := HR3.out.cells
          have hres : elemsR s (q + 1) p y deep acc = if s.data.toList[p']? = some 93 then .ok (.list (acc ++ [t]), p' + 1, y') else if s.data.toList[p']? = some 44 then (match wordR s.data.toList [44, 32] p' with
              | .error e => .error (e, 5)
              | .ok a'' => elemsR s q a'' y' deep (acc ++ [t])) else .error (p', 5) := by rw [elemsR, HV.out]; rfl
          rw [hres] at heq
          clear hres
          by_cases hend2 : p' = s.size
          · rw [at_none hend2, if_neg (by simp), if_neg (by simp)] at heq
            have HEN2 := Lib.hid hend2
            have HRE : Hid (RD r s s.size y' w3) := by rw [← hend2]; exact HR3
            clear hend2
            go_wp2_with fail
            refine (next_end r s y' _ HRE.out hs).mono ?_
            rintro e w4 ⟨rfl, m4, rfl⟩
            go_wp2_with fail
            refine (wrong_any r _ _ _).mono ?_
            rintro e w5 ⟨he, rfl⟩
            cases he
            go_wp2_with fail
            refine ⟨rfl, ?_⟩
            show ValP _ _ _ _ _ _
            rw [HE.out, ← heq.out]
            exact ⟨rfl, HK3.out.trans (KB.drewN m4)⟩
          · have hlt2 : p' < s.size := by omega
            rw [at_some hlt2] at heq
            by_cases h93 : s[p'].toNat = 93
            · have e93 : s[p'] = 93 := UInt8.toNat_inj.1 h93
              rw [if_pos (by rw [e93])] at heq
              have b93 : ((s[p'].toNat : Int) == 93) = true := by rw [h93]; rfl
              have H93 := Lib.hid h93
              have HE93 := Lib.hid e93
              clear h93 e93
              go_wp2_with fail
              refine (next_byte r s p' y' _ HR3.out hs hlt2).mono ?_
              rintro e w4 ⟨rfl, m4, rfl⟩
              go_wp2_with fail
              go_ret
              show ValP _ _ _ _ _ _
              rw [HE.out, ← heq.out]
              have hkeep : ∀ g, N ≤ g → ((w3.drewN m4).setCell ⟨r, 1, none⟩ (.int .i64 (p' + 1 : Nat))).heap[g]? = w3.heap[g]? := fun g hg => Below.heap_setCell _ _ _ _ (by simp; omega)
              refine ⟨_, lv'.ownBlock.toList ++ (bs ++ cs), rfl, ⟨lv', vs ++ [.iface ty tu], bs ++ cs, rfl, ?_, RepVs.keep _ _ _ (fun g hg => hkeep g (HG3.out g hg)) HP3.out, rfl⟩, ?_, ?_, (HR3.out.drewN m4).to1 (p' + 1), (HK3.out.trans (KB.drewN m4)).trans (KB.set 1 _)⟩
              · have h1 := ownsRow_keep (w' := (w3.drewN m4).setCell ⟨r, 1, none⟩ (.int .i64 (p' + 1 : Nat))) HO3.out (fun g hg => hkeep g (HO3.out.lt g hg).1)
                exact ⟨h1.1, h1.2.imp id fun ⟨g, cap, cur, a1, a2, a3⟩ => ⟨g, cap, cur, a1, Nat.zero_le _, a3⟩⟩
              · refine List.nodup_append.2 ⟨by cases lv'.ownBlock <;> simp, HN3.out, fun x hx y hy e => ?_⟩
                exact HD3.out x (by simpa using hx) (e ▸ hy)
              · intro g hg
                have h2 := HN.out
                rcases List.mem_append.1 hg with hg | hg
                · have := (HO3.out.lt g (by simpa using hg)).1; omega
                · have := HG3.out g hg; omega
            · have e93 : ¬ some s[p'] = some (93 : UInt8) := fun e => h93 (by have := Option.some.inj e; rw [this]; rfl)
              rw [if_neg e93] at heq
              have b93 : ((s[p'].toNat : Int) == 93) = false := by simp only [beq_eq_false_iff_ne, ne_eq]; omega
              clear e93
              by_cases h44 : s[p'].toNat = 44
              · have e44 : s[p'] = 44 := UInt8.toNat_inj.1 h44
                rw [if_pos (by rw [e44])] at heq
                have b44 : ((s[p'].toNat : Int) == 44) = true := by rw [h44]; rfl
                have H44 := Lib.hid h44
                have HE44 := Lib.hid e44
                clear h44 e44
                go_wp2_with fail
                refine (next_byte r s p' y' _ HR3.out hs hlt2).mono ?_
                rintro e w4 ⟨rfl, m4, rfl⟩
                go_wp2_with fail
                refine (word_any r s p' y' _ _ (HR3.out.drewN m4) hb1 hs (by decide)).mono ?_
                cases hw : wordR s.data.toList [44, 32] p' with
                | error e0 =>
                  rw [hw] at heq
                  intro e w5 hqq
                  obtain ⟨he, hk5⟩ : WordP r s y' _ (.error e0) e w5 := hqq
                  have HW := Lib.hid hw
                  clear hw
                  cases he
                  go_wp2_with fail
                  refine ⟨rfl, ?_⟩
                  show ValP _ _ _ _ _ _
                  rw [HE.out, ← heq.out]
                  exact ⟨rfl, (HK3.out.trans (KB.drewN m4)).trans hk5⟩
                | ok a'' =>
                  rw [hw] at heq
                  have hwb := wordR_bd [44, 32] p' a'' (by simpa using hb1) hw
                  simp at hwb
                  obtain ⟨hwb1, hwb2⟩ := hwb
                  intro e w5 hqq
                  obtain ⟨rfl, hrd5, hk5⟩ : WordP r s y' _ (.ok a'') e w5 := hqq
                  have HW := Lib.hid hw
                  have HR5 := Lib.hid hrd5
                  have HK5 := Lib.hid ((HK3.out.trans (KB.drewN m4)).trans hk5)
                  have hk5' : KB r w3 w5 := (KB.drewN m4).trans hk5
                  have HO5 : Hid (w5.ownsRow N 30 1 lv' (acc ++ [t]).length (vs ++ [.iface ty tu])) := ownsRow_keep HO3.out (fun g hg => hk5'.block g (HO3.out.lt g hg).2 (by have := (HO3.out.lt g hg).1; simp; omega))
                  have HP5 : Hid (RepVs w5 (acc ++ [t]) (vs ++ [.iface ty tu]) (bs ++ cs)) := RepVs.keep _ _ _ (fun g hg => hk5'.block g (RepVs.lt _ _ _ HP3.out g hg) (by have := HG3.out g hg; simp; omega)) HP3.out
                  have HWB := Lib.hid hwb1
                  clear hw hrd5 hk5 hk5' hwb1
                  go_wp2_with fail
                  go_roundw
                  case rel => exact ⟨q, a'', y', acc ++ [t], lv', _, bs ++ cs, rfl, by omega, by omega, by have := HWB.out; omega, by have := HWB.out; simp; omega, by have := HWB.out; omega, HO5, HP5, HD3, HN3, HG3, HR5, HK5, heq⟩
                  case measure => exact lt_measure hrd.out HR5.out (by have := HWB.out; omega) (by omega)
              · have e44 : ¬ some s[p'] = some (44 : UInt8) := fun e => h44 (by have := Option.some.inj e; rw [this]; rfl)
                rw [if_neg e44] at heq
                have b44 : ((s[p'].toNat : Int) == 44) = false := by simp only [beq_eq_false_iff_ne, ne_eq]; omega
                clear e44
                go_wp2_with fail
                refine (next_byte r s p' y' _ HR3.out hs hlt2).mono ?_
                rintro e w4 ⟨rfl, m4, rfl⟩
                go_wp2_with fail
                refine (wrong_any r _ _ _).mono ?_
                rintro e w5 ⟨he, rfl⟩
                cases he
                go_wp2_with fail
                refine ⟨rfl, ?_⟩
                show ValP _ _ _ _ _ _
                rw [HE.out, ← heq.out]
                exact ⟨rfl, HK3.out.trans (KB.drewN m4)⟩
    · have hlt : a + 1 < s.size := by omega
      by_cases h93 : s[a + 1].toNat = 93
      · have he : listR s (k + 1) a z deep = .ok (.list [], a + 2, z) := by rw [listR, if_neg h64, if_pos (by rw [at_some hlt]; congr 1; exact UInt8.toNat_inj.1 h93)]
        have b93 : ((s[a + 1].toNat : Int) == 93) = true := by rw [h93]; rfl
        have HE := Lib.hid he
        have H93 := Lib.hid h93
        clear he h93
        go_enter Tryd.func51, Tryd.ntmps51
        go_wp2_with fail
        refine (next_byte r s (a + 1) z _ HRD0.out hs hlt).mono ?_
        rintro e w1 ⟨rfl, m, rfl⟩
        obtain ⟨d0, d1, d2, g1, g2⟩ := (HRD0.out.drewN m).cells
        have d1' : ((w.setCell ⟨r, 1, none⟩ (.int .i64 ((a : Int) + 1))).alloc (.cells #[] 30)).cell? ⟨r, 1, none⟩ = some (.int .i64 ((a : Int) + 1)) := d1
        have g1' : ((w.setCell ⟨r, 1, none⟩ (.int .i64 ((a : Int) + 1))).alloc (.cells #[] 30)).frozen? ⟨r, 1, none⟩ = false := g1
        clear d0 d1 d2 g1 g2
        go_wp2_with fail
        go_ret
        show ValP _ _ _ _ _ _
        rw [HE.out]
        have hrN : r < N := by have := H.out.lt; have := HN.out; omega
        refine ⟨_, [w.heap.size], rfl, ⟨_, [], [], rfl, ?_, ⟨rfl, rfl⟩, rfl⟩, by simp, by simp, (HRD0.out.drewN m).to1 (a + 2), (HK0.out.trans (KB.drewN m)).trans (KB.set 1 _)⟩
        have h1 := ownsRow_keep (w' := (((w.setCell ⟨r, 1, none⟩ (.int .i64 (a + 1 : Nat))).alloc (.cells #[] 30)).drewN m).setCell ⟨r, 1, none⟩ (.int .i64 (a + 2 : Nat))) HRW.out (fun g hg => Below.heap_setCell _ _ _ _ (by have := (HRW.out.lt g hg).1; simp; omega))
        exact ⟨h1.1, h1.2.imp id fun ⟨g, cap, cur, a1, a2, a3⟩ => ⟨g, cap, cur, a1, Nat.zero_le _, a3⟩⟩
      · have he : listR s (k + 1) a z deep = elemsR s k (a + 1) z deep [] := by rw [listR, if_neg h64, if_neg (by rw [at_some hlt]; intro e; exact h93 (by have := Option.some.inj e; rw [this]; rfl))]
        have b93 : ((s[a + 1].toNat : Int) == 93) = false := by simp only [beq_eq_false_iff_ne, ne_eq]; omega
        have HE := Lib.hid he
        clear he h93
        go_enter Tryd.func51, Tryd.ntmps51
        go_wp2_with fail
        refine (next_byte r s (a + 1) z _ HRD0.out hs hlt).mono ?_
        rintro e w1 ⟨rfl, m, rfl⟩
        go_wp2_with fail
        go_loopw [5] (fun u wr => ∃ (q p y : Nat) (acc : List VT) (lv : Value) (vs : List Value) (bs : List Nat), lv = u ∧ q ≤ k ∧ p ≤ s.size ∧ y ≤ p ∧ acc.length ≤ p ∧ 3 * (s.size - p) + 4 ≤ q ∧ Hid (wr.ownsRow N 30 1 lv acc.length vs) ∧ Hid (RepVs wr acc vs bs) ∧ Hid (∀ g, lv.ownBlock = some g → g ∉ bs) ∧ Hid bs.Nodup ∧ Hid (∀ g ∈ bs, N ≤ g) ∧
            Hid (RD r s p y wr) ∧ Hid (KB r w wr) ∧ Hid (elemsR s q p y deep acc = elemsR s k (a + 1) z deep [])) (fun _ wr => s.size + 1 - rdAt r wr)
        case atStart => exact ⟨k, a + 1, z, [], _, [], [], rfl, by omega, by omega, by omega, by simp, by omega, HRW, Lib.hid ⟨rfl, rfl⟩, Lib.hid (by simp), Lib.hid (by simp), Lib.hid (by simp), Lib.hid (HRD0.out.drewN m), Lib.hid (HK0.out.trans (KB.drewN m)), Lib.hid rfl⟩
        case round =>
          obtain ⟨q, p, y, acc, lv, vs, bs, rfl, hqk, hp, hy, hacc, hq, hown, hrep, hdis, hnd, hge, hrd, hkb, heq⟩ := hrel
          obtain ⟨q, rfl⟩ : ∃ j, q = j + 1 := ⟨q - 1, by omega⟩
          have hdI : (deep : Int) + 1 = ((deep + 1 : Nat) : Int) := by omega
          have HDI := Lib.hid hdI
          clear hdI
          go_wp2_with fail
          rw [show (Value.int IntKind.i64 ((deep : Int) + 1)) = .int .i64 ((deep + 1 : Nat) : Int) from by rw [HDI.out]]
          refine (HI.out q (by omega) p y (deep + 1) wr hrd.out hp hy (by omega) (by omega) (HT.out.below (hkb.out.below hr h5) (Nat.le_refl 5)) (Nat.le_trans h5 hkb.out.size)).mono ?_
          cases hv : valR s q p y (deep + 1) with
          | error pc =>
            obtain ⟨p', c⟩ := pc
            intro e w2 hqq
            obtain ⟨he, hk2⟩ : ValP r s _ (.error (p', c)) e w2 := hqq
            have HV := Lib.hid hv
            clear hv
            cases he
            go_wp2_with fail
            refine ⟨rfl, ?_⟩
            show ValP _ _ _ _ _ _
            rw [HE.out, ← heq.out, elemsR, HV.out]
            exact ⟨rfl, hkb.out.trans hk2⟩
          | ok taz =>
            obtain ⟨t, p', y'⟩ := taz
            have hbd := valR_bd q p y (deep + 1) t p' y' hp hy hv
            have HV := Lib.hid hv
            clear hv
            obtain ⟨hb0, hb1, hb2⟩ := hbd
            intro e w2 hqq
            obtain ⟨v, cs, rfl, hrv, hnd2, hge2, hrd2, hk2⟩ : ValP r s _ (.ok (t, p', y')) e w2 := hqq
            obtain ⟨ty, tu, rfl⟩ := hrv.iface
            have hgr : ∀ g, lv.ownBlock = some g → N ≤ g ∧ g < wr.heap.size := fun g hg => hown.out.lt g hg
            have hrN : r < N := by have := H.out.lt; have := HN.out; omega
            have HO2 : Hid (w2.ownsRow N 30 1 lv acc.length vs) := ownsRow_keep hown.out (fun g hg => hk2.block g (hgr g hg).2 (by have := hgr g hg; simp; omega))
            have HP2 : Hid (RepVs w2 acc vs bs) := RepVs.keep _ _ _ (fun g hg => hk2.block g (RepVs.lt _ _ _ hrep.out g hg) (by have := hge.out g hg; simp; omega)) hrep.out
            have HV2 := Lib.hid hrv
            have HN2 := Lib.hid hnd2
            have HG2 := Lib.hid hge2
            have HR2 := Lib.hid hrd2
            have HK2 := Lib.hid (hkb.out.trans hk2)
            have HKW := Lib.hid hk2
            have HGR := Lib.hid hgr
            clear hrv hnd2 hge2 hrd2 hk2 hgr
            go_wp2_with (at_builtin; refine wpList_append_own_at _ rfl _ _ 61 rfl N 30 i0 .nilIface 1 16 Tryd.underlying61 HI0.out HZ0.out HZ1.out HZ2.out rfl (by decide) _ _ _ rfl (HO2.out.alloc _) ⟨w2.heap.size, 0, none⟩ 1 1 [.iface ty tu] rfl rfl ?c1 ?c2 ?c3 ?c4 ?c5 ?_)
            case c1 => exact one_new _ _ _
            case c2 => intro u hu; simp at hu; subst hu; rfl
            case c3 => unfold maxLen; omega
            case c4 => omega
            case c5 => have h1 := HN.out; have h2 := HK2.out.size; simp; omega
            intro lv' w3 hown' hgrow _ hblk
            have hs2 := HKW.out.size
            have hs3 := hgrow.size
            simp at hs3
            have hne : ∀ g, lv.ownBlock = some g → g ≠ r := fun g hg => by have := HGR.out g hg; omega
            have hold : ∀ g, g < w2.heap.size → lv.ownBlock ≠ some g → w3.heap[g]? = w2.heap[g]? := fun g hg hn => by
              rw [hgrow.block g (by simp; omega) (fun e => hn e.symm), Below.heap_alloc _ _ _ hg]
            have HR3 : Hid (RD r s p' y' w3) := HR2.out.old (hold r HR2.out.lt (fun e => hne r e rfl))
            have HK3 : Hid (KB r w w3) := by
              have h1 := HK2.out
              have h2 := HN.out
              refine ⟨hgrow.os.trans h1.os, hgrow.tape.trans h1.tape, hgrow.output.trans h1.output, by have := h1.size; omega, fun g hg hgr => ?_⟩
              rw [hold g (by have := h1.size; omega) (fun e => by have h3 := (HGR.out g e).1; omega)]
              exact h1.block g hg hgr
            have HO3 : Hid (w3.ownsRow N 30 1 lv' (acc ++ [t]).length (vs ++ [.iface ty tu])) := by
              show w3.ownsRow N 30 1 lv' (acc ++ [t]).length _
              simpa using hown'
            have HP3 : Hid (RepVs w3 (acc ++ [t]) (vs ++ [.iface ty tu]) (bs ++ cs)) :=
              RepVs.snoc _ _ _ _ _ _ (RepVs.keep _ _ _ (fun g hg => hold g (RepVs.lt _ _ _ HP2.out g hg) (fun e => hdis.out g e hg)) HP2.out)
                (RepV.keep _ _ _ (fun g hg => hold g (RepV.lt _ _ _ HV2.out g hg) (fun e => by have h3 := (HGR.out g e).2; have h4 := HG2.out g hg; omega)) HV2.out)
            have HD3 : Hid (∀ g, lv'.ownBlock = some g → g ∉ bs ++ cs) := by
              intro g hg hm
              rcases hblk with hb | hb
              · rw [hg] at hb
                rcases List.mem_append.1 hm with hm | hm
                · exact hdis.out g hb.symm hm
                · have h3 := (HGR.out g hb.symm).2
                  have h4 := HG2.out g hm
                  omega
              · rw [hg] at hb
                have hb : g = w2.heap.size + 1 := by simpa using hb
                rcases List.mem_append.1 hm with hm | hm
                · have := RepVs.lt _ _ _ HP2.out g hm; omega
                · have := RepV.lt _ _ _ HV2.out g hm; omega
            have HN3 : Hid (bs ++ cs).Nodup := List.nodup_append.2 ⟨hnd.out, HN2.out, fun x hx y hy e => by
              have h3 := RepVs.lt _ _ _ hrep.out x hx
              have h4 := HG2.out y hy
              omega⟩
            have HG3 : Hid (∀ g ∈ bs ++ cs, N ≤ g) := by
              intro g hg
              rcases List.mem_append.1 hg with hg | hg
              · exact hge.out g hg
              · have := HG2.out g hg; have := hkb.out.size; have := HN.out; omega
            clear hown' hgrow hblk hne hold hs3 hs2
            obtain ⟨d0, d1, d2, g1, g2⟩ := HR3.out.cells
            have hres : elemsR s (q + 1) p y deep acc = if s.data.toList[p']? = some 93 then .ok (.list (acc ++ [t]), p' + 1, y') else if s.data.toList[p']? = some 44 then (match wordR s.data.toList [44, 32] p' with
                | .error e => .error (e, 5)
                | .ok a'' => elemsR s q a'' y' deep (acc ++ [t])) else .error (p', 5) := by rw [elemsR, HV.out]; rfl
            rw [hres] at heq
            clear hres
            by_cases hend2 : p' = s.size
            · rw [at_none hend2, if_neg (by simp), if_neg (by simp)] at heq
              have HEN2 := Lib.hid hend2
              have HRE : Hid (RD r s s.size y' w3) := by rw [← hend2]; exact HR3
              clear hend2
              go_wp2_with fail
              refine (next_end r s y' _ HRE.out hs).mono ?_
              rintro e w4 ⟨rfl, m4, rfl⟩
              go_wp2_with fail
              refine (wrong_any r _ _ _).mono ?_
              rintro e w5 ⟨he, rfl⟩
              cases he
              go_wp2_with fail
              refine ⟨rfl, ?_⟩
              show ValP _ _ _ _ _ _
              rw [HE.out, ← heq.out]
              exact ⟨rfl, HK3.out.trans (KB.drewN m4)⟩
            · have hlt2 : p' < s.size := by omega
              rw [at_some hlt2] at heq
              by_cases h93 : s[p'].toNat = 93
              · have e93 : s[p'] = 93 := UInt8.toNat_inj.1 h93
                rw [if_pos (by rw [e93])] at heq
                have b93 : ((s[p'].toNat : Int) == 93) = true := by rw [h93]; rfl
                have H93 := Lib.hid h93
                have HE93 := Lib.hid e93
                clear h93 e93
                go_wp2_with fail
                refine (next_byte r s p' y' _ HR3.out hs hlt2).mono ?_
                rintro e w4 ⟨rfl, m4, rfl⟩
                go_wp2_with fail
                go_ret
                show ValP _ _ _ _ _ _
                rw [HE.out, ← heq.out]
                have hkeep : ∀ g, N ≤ g → ((w3.drewN m4).setCell ⟨r, 1, none⟩ (.int .i64 (p' + 1 : Nat))).heap[g]? = w3.heap[g]? := fun g hg => Below.heap_setCell _ _ _ _ (by simp; omega)
                refine ⟨_, lv'.ownBlock.toList ++ (bs ++ cs), rfl, ⟨lv', vs ++ [.iface ty tu], bs ++ cs, rfl, ?_, RepVs.keep _ _ _ (fun g hg => hkeep g (HG3.out g hg)) HP3.out, rfl⟩, ?_, ?_, (HR3.out.drewN m4).to1 (p' + 1), (HK3.out.trans (KB.drewN m4)).trans (KB.set 1 _)⟩
                · have h1 := ownsRow_keep (w' := (w3.drewN m4).setCell ⟨r, 1, none⟩ (.int .i64 (p' + 1 : Nat))) HO3.out (fun g hg => hkeep g (HO3.out.lt g hg).1)
                  exact ⟨h1.1, h1.2.imp id fun ⟨g, cap, cur, a1, a2, a3⟩ => ⟨g, cap, cur, a1, Nat.zero_le _, a3⟩⟩
                · refine List.nodup_append.2 ⟨by cases lv'.ownBlock <;> simp, HN3.out, fun x hx y hy e => ?_⟩
                  exact HD3.out x (by simpa using hx) (e ▸ hy)
                · intro g hg
                  have h2 := HN.out
                  rcases List.mem_append.1 hg with hg | hg
                  · have := (HO3.out.lt g (by simpa using hg)).1; omega
                  · have := HG3.out g hg; omega
              · have e93 : ¬ some s[p'] = some (93 : UInt8) := fun e => h93 (by have := Option.some.inj e; rw [this]; rfl)
                rw [if_neg e93] at heq
                have b93 : ((s[p'].toNat : Int) == 93) = false := by simp only [beq_eq_false_iff_ne, ne_eq]; omega
                clear e93
                by_cases h44 : s[p'].toNat = 44
                · have e44 : s[p'] = 44 := UInt8.toNat_inj.1 h44
                  rw [if_pos (by rw [e44])] at heq
                  have b44 : ((s[p'].toNat : Int) == 44) = true := by rw [h44]; rfl
                  have H44 := Lib.hid h44
                  have HE44 := Lib.hid e44
                  clear h44 e44
                  go_wp2_with fail
                  refine (next_byte r s p' y' _ HR3.out hs hlt2).mono ?_
                  rintro e w4 ⟨rfl, m4, rfl⟩
                  go_wp2_with fail
                  refine (word_any r s p' y' _ _ (HR3.out.drewN m4) hb1 hs (by decide)).mono ?_
                  cases hw : wordR s.data.toList [44, 32] p' with
                  | error e0 =>
                    rw [hw] at heq
                    intro e w5 hqq
                    obtain ⟨he, hk5⟩ : WordP r s y' _ (.error e0) e w5 := hqq
                    have HW := Lib.hid hw
                    clear hw
                    cases he
                    go_wp2_with fail
                    refine ⟨rfl, ?_⟩
                    show ValP _ _ _ _ _ _
                    rw [HE.out, ← heq.out]
                    exact ⟨rfl, (HK3.out.trans (KB.drewN m4)).trans hk5⟩
                  | ok a'' =>
                    rw [hw] at heq
                    have hwb := wordR_bd [44, 32] p' a'' (by simpa using hb1) hw
                    simp at hwb
                    obtain ⟨hwb1, hwb2⟩ := hwb
                    intro e w5 hqq
                    obtain ⟨rfl, hrd5, hk5⟩ : WordP r s y' _ (.ok a'') e w5 := hqq
                    have HW := Lib.hid hw
                    have HR5 := Lib.hid hrd5
                    have HK5 := Lib.hid ((HK3.out.trans (KB.drewN m4)).trans hk5)
                    have hk5' : KB r w3 w5 := (KB.drewN m4).trans hk5
                    have HO5 : Hid (w5.ownsRow N 30 1 lv' (acc ++ [t]).length (vs ++ [.iface ty tu])) := ownsRow_keep HO3.out (fun g hg => hk5'.block g (HO3.out.lt g hg).2 (by have := (HO3.out.lt g hg).1; simp; omega))
                    have HP5 : Hid (RepVs w5 (acc ++ [t]) (vs ++ [.iface ty tu]) (bs ++ cs)) := RepVs.keep _ _ _ (fun g hg => hk5'.block g (RepVs.lt _ _ _ HP3.out g hg) (by have := HG3.out g hg; simp; omega)) HP3.out
                    have HWB := Lib.hid hwb1
                    clear hw hrd5 hk5 hk5' hwb1
                    go_wp2_with fail
                    go_roundw
                    case rel => exact ⟨q, a'', y', acc ++ [t], lv', _, bs ++ cs, rfl, by omega, by omega, by have := HWB.out; omega, by have := HWB.out; simp; omega, by have := HWB.out; omega, HO5, HP5, HD3, HN3, HG3, HR5, HK5, heq⟩
                    case measure => exact lt_measure hrd.out HR5.out (by have := HWB.out; omega) (by omega)
                · have e44 : ¬ some s[p'] = some (44 : UInt8) := fun e => h44 (by have := Option.some.inj e; rw [this]; rfl)
                  rw [if_neg e44] at heq
                  have b44 : ((s[p'].toNat : Int) == 44) = false := by simp only [beq_eq_false_iff_ne, ne_eq]; omega
                  clear e44
                  go_wp2_with fail
                  refine (next_byte r s p' y' _ HR3.out hs hlt2).mono ?_
                  rintro e w4 ⟨rfl, m4, rfl⟩
                  go_wp2_with fail
                  refine (wrong_any r _ _ _).mono ?_
                  rintro e w5 ⟨he, rfl⟩
                  cases he
                  go_wp2_with fail
                  refine ⟨rfl, ?_⟩
                  show ValP _ _ _ _ _ _
                  rw [HE.out, ← heq.out]
                  exact ⟨rfl, HK3.out.trans (KB.drewN m4)⟩
end

section
open Go.RowKit
theorem rval_all (r : Nat) (s : ByteArray) (hs : s.size ≤ 1048576) (hr : 5 ≤ r) : ∀ k, RdVal r s k := by
  intro k
  induction k using Nat.strongRecOn with
  | _ k ih =>
    cases k with
    | zero => intro a z deep w _ _ _ hk; omega
    | succ k => exact rval_step r s k hs hr (rlist_step r s k hs hr (fun j hj => ih j (by omega)))
#print axioms rval_all
end

section
open Go.RowKit
set_option maxRecDepth 100000
@[go_sem] theorem as20_74 (v : Value) (w : World) : (Instr.typeAssert (.iface 74 v) 20 74 true).run Tryd.prog w = .ok (.tuple #[v, .bool true]) w := by kernel_rfl
@[go_sem] theorem as20_nil (w : World) : (Instr.typeAssert .nilIface 20 74 true).run Tryd.prog w = .ok (.tuple #[.agg #[.int .i64 0, .int .i64 0], .bool false]) w := by kernel_rfl
set_option maxHeartbeats 2000000 in
theorem catch_idle (p q t : Addr) (w : World) :
    CallsD Tryd.prog 34 #[.pointer (some p), .pointer (some q), .pointer (some t)] .returning w fun e u' w' => e = .returned (.tuple #[]) ∧ u' = .returning ∧ Below w.heap.size w w' := by
  refine callsD_of_wpS Tryd.func34 rfl fun c₀ cs hu => ?_
  apply wpS_seq
  apply wpS_region
  simp [wpOpsS, go_sem, recoverD, hu, Tryd.ntmps34, Exit.thenS]
  refine wpS_of_wp ?_
  change Code.wp Tryd.prog _ _ { tmps := #[.pointer (some p), .pointer (some q), .pointer (some t), .pointer (some ⟨w.heap.size, 0, none⟩), .bool false, .tuple #[.agg #[.int .i64 0, .int .i64 0], .bool false], .nilIface, .tuple #[.agg #[.int .i64 0, .int .i64 0], .bool false], .agg #[.int .i64 0, .int .i64 0], .bool false, undef, undef, undef, undef, undef], defers := [] } _
  go_wp2_with fail
  refine ⟨rfl, .returning, ?_, .tuple #[], by simp [results, Tryd.results34], rfl, rfl, alloc_below' _ _⟩
  cases c₀
  simp_all
def CatchEnd (N : Nat) (a : Nat) (c : Int) (w : World) (e : Exit) (a' : Act) (w' : World) : Prop :=
  e = .normal ∧ a'.defers = [] ∧ Below N w w' ∧ w'.cell? ⟨N, 0, none⟩ = some .nilIface ∧ w'.cell? ⟨N + 1, 0, none⟩ = some (.int .i64 a) ∧ w'.cell? ⟨N + 2, 0, none⟩ = some (.int .i64 c)
theorem set_heap {w : World} {b : Nat} {x v : Value} {t : TypeId} (h : w.heap[b]? = some (.cells #[x] t (0, 0))) : (w.setCell ⟨b, 0, none⟩ v).heap[b]? = some (.cells #[v] t (0, 0)) := by
  simp only [World.setCell, Array.getElem?_modify, h]
  simp
theorem catch_end {N : Nat} {a : Nat} {c : Int} {w W : World} {x y z : Value} (hW : Below N w W) (hx : W.heap[N]? = some (.cells #[x] 30 (0, 0))) (hy : W.heap[N + 1]? = some (.cells #[y] 3 (0, 0))) (hz : W.heap[N + 2]? = some (.cells #[z] 26 (0, 0))) {n : Nat} {tm : Array Value} :
    CatchEnd N a c w .normal { tmps := tm, defers := [] } ((((W.setCell ⟨N, 0, none⟩ .nilIface).setCell ⟨N + 1, 0, none⟩ (.int .i64 a)).setCell ⟨N + 2, 0, none⟩ (.int .i64 c)).drewN n) := by
  have k1 : ((W.setCell ⟨N, 0, none⟩ .nilIface).setCell ⟨N + 1, 0, none⟩ (.int .i64 a)).heap[N + 2]? = some (.cells #[z] 26 (0, 0)) := by
    rw [Below.heap_setCell _ _ _ _ (by simp), Below.heap_setCell _ _ _ _ (by simp)]; exact hz
  have k2 : (W.setCell ⟨N, 0, none⟩ .nilIface).heap[N + 1]? = some (.cells #[y] 3 (0, 0)) := by rw [Below.heap_setCell _ _ _ _ (by simp)]; exact hy
  have e3 := set_heap (v := .int .i64 c) k1
  have e2 := set_heap (v := .int .i64 a) k2
  have e1 := set_heap (v := .nilIface) hx
  refine ⟨rfl, rfl, ?_, ?_, ?_, ?_⟩
  · exact ((((hW.setCell (p := ⟨N, 0, none⟩) (Nat.le_refl _) _).setCell (p := ⟨N + 1, 0, none⟩) (by simp) _).setCell (p := ⟨N + 2, 0, none⟩) (by simp) _)).trans ⟨rfl, rfl, rfl, Nat.le_refl _, fun _ _ => rfl⟩
  · have h1 := (Below.heap_setCell ((W.setCell ⟨N, 0, none⟩ .nilIface).setCell ⟨N + 1, 0, none⟩ (.int .i64 a)) ⟨N + 2, 0, none⟩ (.int .i64 c) N (by simp)).trans ((Below.heap_setCell (W.setCell ⟨N, 0, none⟩ .nilIface) ⟨N + 1, 0, none⟩ (.int .i64 a) N (by simp)).trans e1)
    exact (Lib.cell_of_heap h1 0).trans rfl
  · have h1 := (Below.heap_setCell ((W.setCell ⟨N, 0, none⟩ .nilIface).setCell ⟨N + 1, 0, none⟩ (.int .i64 a)) ⟨N + 2, 0, none⟩ (.int .i64 c) (N + 1) (by simp)).trans e2
    exact (Lib.cell_of_heap h1 0).trans rfl
  · exact (Lib.cell_of_heap e3 0).trans rfl
theorem tmps_eq (p q t A B C D E F G : Value) : (#[p, q, t] ++ (((((((Array.replicate 12 undef).setIfInBounds 3 A).setIfInBounds 4 B).setIfInBounds 2 C).setIfInBounds 5 D).setIfInBounds 6 E).setIfInBounds 0 F).setIfInBounds 1 G) = #[p, q, t, F, G, C, A, B, D, E, undef, undef, undef, undef, undef] := by
  have h : (Array.replicate 12 undef : Array Value) = #[undef, undef, undef, undef, undef, undef, undef, undef, undef, undef, undef, undef] := by simp [Array.replicate]
  rw [h]
  simp
set_option maxHeartbeats 4000000 in
theorem catch_fault (N : Nat) (a : Nat) (c : Int) (older : List PanicEntry) (w : World) (x y z : Value) (hx : w.heap[N]? = some (.cells #[x] 30 (0, 0))) (hy : w.heap[N + 1]? = some (.cells #[y] 3 (0, 0))) (hz : w.heap[N + 2]? = some (.cells #[z] 26 (0, 0))) :
    CallsD Tryd.prog 34 #[.pointer (some ⟨N, 0, none⟩), .pointer (some ⟨N + 1, 0, none⟩), .pointer (some ⟨N + 2, 0, none⟩)] (.panicking ({ v := faultV a c, recovered := false } :: older)) w fun e u' w' =>
      e = .returned (.tuple #[]) ∧ u' = .panicking ({ v := faultV a c, recovered := true } :: older) ∧ Below N w w' ∧ w'.cell? ⟨N, 0, none⟩ = some .nilIface ∧ w'.cell? ⟨N + 1, 0, none⟩ = some (.int .i64 a) ∧ w'.cell? ⟨N + 2, 0, none⟩ = some (.int .i64 c) := by
  unfold faultV
  refine callsD_of_wpS Tryd.func34 rfl fun c₀ cs hu => ?_
  apply wpS_seq
  apply wpS_region
  simp [wpOpsS, go_sem, recoverD, hu, Tryd.ntmps34, Exit.thenS]
  refine wpS_of_wp ?_
  have hltN : N + 2 < w.heap.size := (Array.getElem?_eq_some_iff.1 hz).1
  have hlt1 : N + 1 < w.heap.size := (Array.getElem?_eq_some_iff.1 hy).1
  have hlt0 : N < w.heap.size := (Array.getElem?_eq_some_iff.1 hx).1
  refine Code.wp_mono (fun e a' w' (h : CatchEnd N a c w e a' w') => ?_) ?_
  · obtain ⟨rfl, hd, h⟩ := h
    exact ⟨hd, _, rfl, .tuple #[], by simp [results, Tryd.results34], rfl, rfl, h⟩
  clear hu
  obtain ⟨M, hM⟩ : ∃ M, M = w.heap.size := ⟨_, rfl⟩
  have hk : ∀ g, g < w.heap.size → (w.alloc (.cells #[.int .i64 a, .int .i64 c] 74)).heap[g]? = w.heap[g]? := fun g hg => Below.heap_alloc w _ g hg
  have hx' := (hk N hlt0).trans hx
  have hy' := (hk (N + 1) hlt1).trans hy
  have hz' := (hk (N + 2) hltN).trans hz
  have hnew := heap_alloc_new w (.cells #[.int .i64 a, .int .i64 c] 74)
  have hBW : Below N w (w.alloc (.cells #[.int .i64 a, .int .i64 c] 74)) := (alloc_below' w _).mono (by omega)
  rw [tmps_eq]
  rw [← hM] at hnew ⊢
  generalize w.alloc (.cells #[.int .i64 a, .int .i64 c] 74) = W at hx' hy' hz' hnew hBW ⊢
  have x0 : W.cell? ⟨N, 0, none⟩ = some x := by rw [Lib.cell_of_heap hx']; rfl
  have y0 : W.cell? ⟨N + 1, 0, none⟩ = some y := by rw [Lib.cell_of_heap hy']; rfl
  have z0 : W.cell? ⟨N + 2, 0, none⟩ = some z := by rw [Lib.cell_of_heap hz']; rfl
  have xf : W.frozen? ⟨N, 0, none⟩ = false := Lib.frozen_of_heap hx' 0
  have yf : W.frozen? ⟨N + 1, 0, none⟩ = false := Lib.frozen_of_heap hy' 0
  have zf : W.frozen? ⟨N + 2, 0, none⟩ = false := Lib.frozen_of_heap hz' 0
  have m0 : W.cell? ⟨M, 0, none⟩ = some (.int .i64 a) := by rw [Lib.cell_of_heap hnew]; rfl
  have m1 : W.cell? ⟨M, 1, none⟩ = some (.int .i64 c) := by rw [Lib.cell_of_heap hnew]; rfl
  have n0 : M ≠ N := by omega
  have n1 : M ≠ N + 1 := by omega
  have n2 : M ≠ N + 2 := by omega
  have HX := Lib.hid hx'
  have HY := Lib.hid hy'
  have HZ := Lib.hid hz'
  have HW := Lib.hid hBW
  clear hx hy hz hx' hy' hz' hnew hBW hk hM hltN hlt0 hlt1
  go_wp2_with fail
  go_region
  exact catch_end (n := 1) HW.out HX.out HY.out HZ.out
end

section
open Go.RowKit
set_option maxRecDepth 100000
set_option maxHeartbeats 2000000 in
theorem read_long (s : ByteArray) (w : World) (hs : 1048576 < s.size) (hm : s.size ≤ 9223372036854775807) : Calls Tryd.prog 10 #[.string s] w fun e w' => e = .returned (.tuple #[.nilIface, .int .i64 0, .int .i64 2]) ∧ Below w.heap.size w w' := by
  have hmf : ∀ (fn : Fn) (first cap : Array Value) (w : World), (Instr.makeFunc fn first cap).run Tryd.prog w = .ok (.func fn first cap) w := fun _ _ _ _ => rfl
  have h1 : (1048576 : Int) < (s.size : Int) := by omega
  go_enter_defers Tryd.func10, Tryd.ntmps10
  go_wp2_with fail
  show Leaves _ _ _ _ _ _ _
  refine ⟨.tuple #[.nilIface, .int .i64 0, .int .i64 2], by simp [results, Tryd.results10, go_sem], rfl, ?_⟩
  exact ((alloc_below' w _).alloc (by simp) _).alloc (by simp; omega) _
def readR (s : ByteArray) : Except (Nat × Int) VT :=
  match valR s (3 * s.size + 3) 0 0 0 with
  | .error pc => .error pc
  | .ok (t, a', z') => if a' < s.size then .error (a', 5) else if 65536 < z' then .error (s.size, 2) else .ok t
def ReadP (w : World) : Except (Nat × Int) VT → Ending → World → Prop
  | .error (p, c), e, w' => e = .returned (.tuple #[.nilIface, .int .i64 p, .int .i64 c]) ∧ Below w.heap.size w w'
  | .ok t, e, w' => ∃ v bs, e = .returned (.tuple #[v, .int .i64 0, .int .i64 0]) ∧ RepV w' t v bs ∧ bs.Nodup ∧ (∀ g ∈ bs, w.heap.size ≤ g) ∧ Below w.heap.size w w'
def ReadQ (w : World) (x : Except (Nat × Int) VT) (e : Ending) (w' : World) : Prop := ReadP w x e w'
theorem ReadQ.fault {w : World} {x : Except (Nat × Int) VT} {p : Nat} {c : Int} {w' : World} (h : x = .error (p, c)) (hb : Below w.heap.size w w') : ReadQ w x (.returned (.tuple #[.nilIface, .int .i64 p, .int .i64 c])) w' := by
  subst h; exact ⟨rfl, hb⟩
set_option maxHeartbeats 4000000 in
theorem read_short (s : ByteArray) (w : World) (hs : s.size ≤ 1048576) (ht : Tabs w) (h5 : 5 ≤ w.heap.size) : Calls Tryd.prog 10 #[.string s] w (ReadQ w (readR s)) := by
  have hmf : ∀ (fn : Fn) (first cap : Array Value) (w : World), (Instr.makeFunc fn first cap).run Tryd.prog w = .ok (.func fn first cap) w := fun _ _ _ _ => rfl
  have h1 : ¬ ((1048576 : Int) < (s.size : Int)) := by omega
  go_enter_defers Tryd.func10, Tryd.ntmps10
  have hrd : RD (w.heap.size + 3) s 0 0 ((((w.alloc (.cells #[.nilIface] 30)).alloc (.cells #[.int .i64 0] 3)).alloc (.cells #[.int .i64 0] 26)).alloc (.cells #[.string s, .int .i64 0, .int .i64 0] 78)) := by
    have h := heap_alloc_new (((w.alloc (.cells #[.nilIface] 30)).alloc (.cells #[.int .i64 0] 3)).alloc (.cells #[.int .i64 0] 26)) (.cells #[.string s, .int .i64 0, .int .i64 0] 78)
    have e : (((w.alloc (.cells #[.nilIface] 30)).alloc (.cells #[.int .i64 0] 3)).alloc (.cells #[.int .i64 0] 26)).heap.size = w.heap.size + 3 := by simp
    rw [e] at h
    exact h
  have hbw : Below w.heap.size w ((((w.alloc (.cells #[.nilIface] 30)).alloc (.cells #[.int .i64 0] 3)).alloc (.cells #[.int .i64 0] 26)).alloc (.cells #[.string s, .int .i64 0, .int .i64 0] 78)) :=
    (((alloc_below' w _).alloc (by simp) _).alloc (by simp; omega) _).alloc (by simp; omega) _
  have hn0 : (fun (V : World) => V.heap[w.heap.size]? = some (.cells #[.nilIface] 30 (0, 0)) ∧ V.heap[w.heap.size + 1]? = some (.cells #[.int .i64 0] 3 (0, 0)) ∧ V.heap[w.heap.size + 2]? = some (.cells #[.int .i64 0] 26 (0, 0)) ∧ w.heap.size + 1 < V.heap.size ∧ w.heap.size + 2 < V.heap.size)
      ((((w.alloc (.cells #[.nilIface] 30)).alloc (.cells #[.int .i64 0] 3)).alloc (.cells #[.int .i64 0] 26)).alloc (.cells #[.string s, .int .i64 0, .int .i64 0] 78)) := by
    have a0 := heap_alloc_new w (.cells #[.nilIface] 30)
    have a1 := heap_alloc_new (w.alloc (.cells #[.nilIface] 30)) (.cells #[.int .i64 0] 3)
    have a2 := heap_alloc_new ((w.alloc (.cells #[.nilIface] 30)).alloc (.cells #[.int .i64 0] 3)) (.cells #[.int .i64 0] 26)
    have z1 : (w.alloc (.cells #[.nilIface] 30)).heap.size = w.heap.size + 1 := by simp
    have z2 : ((w.alloc (.cells #[.nilIface] 30)).alloc (.cells #[.int .i64 0] 3)).heap.size = w.heap.size + 2 := by simp
    have z3 : (((w.alloc (.cells #[.nilIface] 30)).alloc (.cells #[.int .i64 0] 3)).alloc (.cells #[.int .i64 0] 26)).heap.size = w.heap.size + 3 := by simp
    rw [z1] at a1
    rw [z2] at a2
    refine ⟨?_, ?_, ?_, by simp, by simp⟩
    · rw [Below.heap_alloc _ _ _ (by omega), Below.heap_alloc _ _ _ (by omega), Below.heap_alloc _ _ _ (by omega)]; exact a0
    · rw [Below.heap_alloc _ _ _ (by omega), Below.heap_alloc _ _ _ (by omega)]; exact a1
    · rw [Below.heap_alloc _ _ _ (by omega)]; exact a2
  have HN0 := Lib.hid hn0
  clear hn0
  have HRD := Lib.hid hrd
  have HBW := Lib.hid hbw
  have HT := Lib.hid ht
  clear hrd hbw ht
  go_wp2_with fail
  generalize ((((w.alloc (.cells #[.nilIface] 30)).alloc (.cells #[.int .i64 0] 3)).alloc (.cells #[.int .i64 0] 26)).alloc (.cells #[.string s, .int .i64 0, .int .i64 0] 78)) = W at HRD HBW HN0 ⊢
  refine (rval_all (w.heap.size + 3) s hs (by omega) (3 * s.size + 3) 0 0 0 W HRD.out (by omega) (by omega) (by omega) (by omega) (HT.out.below HBW.out h5) (Nat.le_trans h5 HBW.out.size)).mono ?_
  cases hv : valR s (3 * s.size + 3) 0 0 0 with
  | error pc =>
    obtain ⟨p, c⟩ := pc
    intro e w2 hq
    obtain ⟨he, hk2⟩ : ValP (w.heap.size + 3) s _ (.error (p, c)) e w2 := hq
    cases he
    go_wp2_with fail
    refine leaves_cons (f := 34) (args := #[.pointer (some ⟨w.heap.size, 0, none⟩), .pointer (some ⟨w.heap.size + 1, 0, none⟩), .pointer (some ⟨w.heap.size + 2, 0, none⟩)]) (by simp) (by simp [go_sem]) ?_
    refine (catch_fault w.heap.size p c [] w2 _ _ _ ((hk2.block _ (by have := HBW.out.size; have := HN0.out; omega) (by simp)).trans HN0.out.1) ((hk2.block _ HN0.out.2.2.2.1 (by simp)).trans HN0.out.2.1) ((hk2.block _ HN0.out.2.2.2.2 (by simp)).trans HN0.out.2.2.1)).mono ?_
    rintro e u' w3 ⟨rfl, rfl, hB3, g0, g1, g2⟩
    have hres : readR s = .error (p, c) := by unfold readR; rw [hv]
    have HRS := Lib.hid hres
    have hB4 : Below w.heap.size w w3 := (HBW.out.trans (hk2.below (by omega) HBW.out.size)).trans hB3
    clear hres
    simp [Leaves, settle, results, Tryd.results10, go_sem, g0, g1, g2]
    exact ReadQ.fault HRS.out hB4
  | ok x =>
    obtain ⟨t, a', z'⟩ := x
    have hbd := valR_bd _ _ _ _ _ _ _ (Nat.zero_le _) (Nat.le_refl 0) hv
    obtain ⟨hb0, hb1, hb2⟩ := hbd
    intro e w2 hq
    obtain ⟨v, bs, rfl, hrv, hnd, hge, hrd, hk2⟩ : ValP (w.heap.size + 3) s _ (.ok (t, a', z')) e w2 := hq
    obtain ⟨ty, tu, rfl⟩ := hrv.iface
    have hx2 := (hk2.block _ (by have := HBW.out.size; have := HN0.out; omega) (by simp)).trans HN0.out.1
    have hy2 := (hk2.block _ HN0.out.2.2.2.1 (by simp)).trans HN0.out.2.1
    have hz2 := (hk2.block _ HN0.out.2.2.2.2 (by simp)).trans HN0.out.2.2.1
    have f0 : w2.frozen? ⟨w.heap.size, 0, none⟩ = false := Lib.frozen_of_heap hx2 0
    obtain ⟨d0, d1, d2, g1, g2⟩ := hrd.cells
    have x0 : w2.cell? ⟨w.heap.size, 0, none⟩ = some .nilIface := by rw [Lib.cell_of_heap hx2]; rfl
    have HS0 : Hid ((w2.setCell ⟨w.heap.size, 0, none⟩ (.iface ty tu)).heap[w.heap.size]? = some (.cells #[.iface ty tu] 30 (0, 0))) := set_heap hx2
    have HS1 : Hid ((w2.setCell ⟨w.heap.size, 0, none⟩ (.iface ty tu)).heap[w.heap.size + 1]? = some (.cells #[.int .i64 0] 3 (0, 0))) := (Below.heap_setCell _ _ _ _ (by simp)).trans hy2
    have HS2 : Hid ((w2.setCell ⟨w.heap.size, 0, none⟩ (.iface ty tu)).heap[w.heap.size + 2]? = some (.cells #[.int .i64 0] 26 (0, 0))) := (Below.heap_setCell _ _ _ _ (by simp)).trans hz2
    have HB2 : Hid (Below w.heap.size w (w2.setCell ⟨w.heap.size, 0, none⟩ (.iface ty tu))) := (HBW.out.trans (hk2.below (by omega) HBW.out.size)).setCell (Nat.le_refl _) _
    have HX2 := Lib.hid hx2
    have HY2 := Lib.hid hy2
    have HZ2 := Lib.hid hz2
    have HV := Lib.hid hv
    have HRV := Lib.hid hrv
    have HND := Lib.hid hnd
    have HGE := Lib.hid hge
    have HRD2 := Lib.hid hrd
    have HK2 := Lib.hid hk2
    clear hx2 hy2 hz2 hv hrv hnd hge hrd hk2
    by_cases hlt : (a' : Int) < (s.size : Int)
    · have hres : readR s = .error (a', 5) := by unfold readR; rw [HV.out]; simp only; rw [if_pos (by omega)]
      have HRS := Lib.hid hres
      clear hres
      go_wp2_with fail
      refine (wrong_any (w.heap.size + 3) _ _ _).mono ?_
      rintro e w4 ⟨he, rfl⟩
      cases he
      go_wp2_with fail
      refine leaves_cons (f := 34) (args := #[.pointer (some ⟨w.heap.size, 0, none⟩), .pointer (some ⟨w.heap.size + 1, 0, none⟩), .pointer (some ⟨w.heap.size + 2, 0, none⟩)]) (by simp) (by simp [go_sem]) ?_
      refine (catch_fault w.heap.size (a') 5 [] _ _ _ _ HS0.out HS1.out HS2.out).mono ?_
      rintro e u' w3 ⟨rfl, rfl, hB3, g0, g1, g2⟩
      have hB4 : Below w.heap.size w w3 := HB2.out.trans hB3
      simp [Leaves, settle, results, Tryd.results10, go_sem, g0, g1, g2]
      exact ReadQ.fault HRS.out hB4
    · have ha' : ¬ a' < s.size := by omega
      by_cases hz : (65536 : Int) < (z' : Int)
      · have hres : readR s = .error (s.size, 2) := by unfold readR; rw [HV.out]; simp only; rw [if_neg ha', if_pos (by omega)]
        have HRS := Lib.hid hres
        clear hres ha'
        go_wp2_with fail
        refine (wrong_any (w.heap.size + 3) _ _ _).mono ?_
        rintro e w4 ⟨he, rfl⟩
        cases he
        go_wp2_with fail
        refine leaves_cons (f := 34) (args := #[.pointer (some ⟨w.heap.size, 0, none⟩), .pointer (some ⟨w.heap.size + 1, 0, none⟩), .pointer (some ⟨w.heap.size + 2, 0, none⟩)]) (by simp) (by simp [go_sem]) ?_
        refine (catch_fault w.heap.size (s.size) 2 [] _ _ _ _ HS0.out HS1.out HS2.out).mono ?_
        rintro e u' w3 ⟨rfl, rfl, hB3, g0, g1, g2⟩
        have hB4 : Below w.heap.size w w3 := HB2.out.trans hB3
        simp [Leaves, settle, results, Tryd.results10, go_sem, g0, g1, g2]
        exact ReadQ.fault HRS.out hB4
      · have hres : readR s = .ok t := by unfold readR; rw [HV.out]; simp only; rw [if_neg ha', if_neg (by omega)]
        have HRS := Lib.hid hres
        clear hres ha'
        have y0 : w2.cell? ⟨w.heap.size + 1, 0, none⟩ = some (.int .i64 0) := by rw [Lib.cell_of_heap HY2.out]; rfl
        have z0 : w2.cell? ⟨w.heap.size + 1 + 1, 0, none⟩ = some (.int .i64 0) := by rw [Lib.cell_of_heap HZ2.out]; rfl
        have yf : w2.frozen? ⟨w.heap.size + 1, 0, none⟩ = false := Lib.frozen_of_heap HY2.out 0
        have zf : w2.frozen? ⟨w.heap.size + 1 + 1, 0, none⟩ = false := Lib.frozen_of_heap HZ2.out 0
        go_wp2_with fail
        refine leaves_cons (f := 34) (args := #[.pointer (some ⟨w.heap.size, 0, none⟩), .pointer (some ⟨w.heap.size + 1, 0, none⟩), .pointer (some ⟨w.heap.size + 2, 0, none⟩)]) (by simp) (by simp [go_sem]) ?_
        refine (catch_idle _ _ _ _).mono ?_
        rintro e u' w4 ⟨rfl, rfl, hB4⟩
        have hN0 : w.heap.size < w2.heap.size := (Array.getElem?_eq_some_iff.1 HX2.out).1
        have hN1 : w.heap.size + 1 < w2.heap.size := (Array.getElem?_eq_some_iff.1 HY2.out).1
        have hN2 : w.heap.size + 2 < w2.heap.size := (Array.getElem?_eq_some_iff.1 HZ2.out).1
        have key : ∀ g, g < w2.heap.size → w4.heap[g]? = ((((w2.setCell ⟨w.heap.size, 0, none⟩ (.iface ty tu)).setCell ⟨w.heap.size, 0, none⟩ (.iface ty tu)).setCell ⟨w.heap.size + 1, 0, none⟩ (.int .i64 0)).setCell ⟨w.heap.size + 2, 0, none⟩ (.int .i64 0)).heap[g]? := fun g hg => hB4.block g (by simp [World.setCell]; omega)
        have q0 := set_heap (v := .iface ty tu) (set_heap (v := .iface ty tu) HX2.out)
        have g0 : w4.cell? ⟨w.heap.size, 0, none⟩ = some (.iface ty tu) := by
          rw [Lib.cell_of_heap ((key _ hN0).trans ((Below.heap_setCell _ _ _ _ (by simp)).trans ((Below.heap_setCell _ _ _ _ (by simp)).trans q0)))]; rfl
        have g1 : w4.cell? ⟨w.heap.size + 1, 0, none⟩ = some (.int .i64 0) := by
          rw [Lib.cell_of_heap ((key _ hN1).trans ((Below.heap_setCell _ _ _ _ (by simp)).trans (set_heap (v := .int .i64 0) ((Below.heap_setCell _ _ _ _ (by simp)).trans ((Below.heap_setCell _ _ _ _ (by simp)).trans HY2.out)))))]; rfl
        have g2 : w4.cell? ⟨w.heap.size + 2, 0, none⟩ = some (.int .i64 0) := by
          rw [Lib.cell_of_heap ((key _ hN2).trans (set_heap (v := .int .i64 0) ((Below.heap_setCell _ _ _ _ (by simp)).trans ((Below.heap_setCell _ _ _ _ (by simp)).trans ((Below.heap_setCell _ _ _ _ (by simp)).trans HZ2.out)))))]; rfl
        have hfin : ReadQ w (readR s) (.returned (.tuple #[.iface ty tu, .int .i64 0, .int .i64 0])) w4 := by
          show ReadP _ _ _ _
          rw [HRS.out]
          have hbs : ∀ g ∈ bs, w.heap.size + 4 ≤ g := fun g hg => by have h1 := HGE.out g hg; have h2 := HRD.out.lt; omega
          refine ⟨_, bs, rfl, RepV.keep _ _ _ (fun g hg => ?_) HRV.out, HND.out, fun g hg => by have := hbs g hg; omega, ?_⟩
          · have h4 := hbs g hg
            exact (key g (RepV.lt _ _ _ HRV.out g hg)).trans ((Below.heap_setCell _ _ _ _ (by simp; omega)).trans ((Below.heap_setCell _ _ _ _ (by simp; omega)).trans ((Below.heap_setCell _ _ _ _ (by simp; omega)).trans (Below.heap_setCell _ _ _ _ (by simp; omega)))))
          · exact (((HB2.out.setCell (p := ⟨w.heap.size, 0, none⟩) (Nat.le_refl _) _).setCell (p := ⟨w.heap.size + 1, 0, none⟩) (by simp) _).setCell (p := ⟨w.heap.size + 2, 0, none⟩) (by simp) _).trans (hB4.mono (by simp [World.setCell]; omega))
        have HF := Lib.hid hfin
        clear hfin key q0
        simp [Leaves, settle, results, Tryd.results10, go_sem, g0, g1, g2]
        exact HF.out
end

section
theorem ex_read : readR ⟨#[91, 49, 44, 32, 121, 101, 115, 93]⟩ = .ok (.list [.int 1, .truth true]) := by kernel_rfl
theorem ex_007 : readR ⟨#[48, 48, 55]⟩ = .error (1, 5) := by kernel_rfl
theorem ex_text : textP (.mk 5 0 ⟨#[]⟩ [.mk 1 0 ⟨#[]⟩ [], .mk 4 0 ⟨#[97, 34]⟩ []]) = ([91, 117, 110, 105, 116, 44, 32, 34, 97, 92, 34, 34, 93], 0) := by kernel_rfl
end

section
open Go.RowKit
set_option maxRecDepth 100000
set_option maxHeartbeats 1000000 in
/-- The law's own 'num'. -/
theorem num_any (n : Int) (w : World) : Calls Tryd.prog 28 #[.int .i64 n] w fun e w' => e = .returned (.agg #[.int .i64 3, .int .i64 n, .string ⟨#[]⟩, .slice none 0 0]) ∧ Below w.heap.size w w' := by
  go_enter Tryd.func28, Tryd.ntmps28
  go_wp2_with fail
  exact bodyPost_ret (v := .agg #[.int .i64 3, .int .i64 n, .string ⟨#[]⟩, .slice none 0 0]) (by simp [results, Tryd.results28, go_sem]) rfl ⟨rfl, (Below.refl _ _).alloc (Nat.le_refl _) _⟩
set_option maxHeartbeats 1000000 in
/-- The law's own 'text'. -/
theorem textp_any (t : ByteArray) (w : World) : Calls Tryd.prog 29 #[.string t] w fun e w' => e = .returned (.agg #[.int .i64 4, .int .i64 0, .string t, .slice none 0 0]) ∧ Below w.heap.size w w' := by
  go_enter Tryd.func29, Tryd.ntmps29
  go_wp2_with fail
  exact bodyPost_ret (v := .agg #[.int .i64 4, .int .i64 0, .string t, .slice none 0 0]) (by simp [results, Tryd.results29, go_sem]) rfl ⟨rfl, (Below.refl _ _).alloc (Nat.le_refl _) _⟩
set_option maxHeartbeats 1000000 in
/-- The law's own 'list'. -/
theorem listp_any (la : Option Addr) (ln lc : Nat) (w : World) : Calls Tryd.prog 18 #[.slice la ln lc] w fun e w' => e = .returned (.agg #[.int .i64 5, .int .i64 0, .string ⟨#[]⟩, .slice la ln lc]) ∧ Below w.heap.size w w' := by
  go_enter Tryd.func18, Tryd.ntmps18
  go_wp2_with fail
  exact bodyPost_ret (v := .agg #[.int .i64 5, .int .i64 0, .string ⟨#[]⟩, .slice la ln lc]) (by simp [results, Tryd.results18, go_sem]) rfl ⟨rfl, (Below.refl _ _).alloc (Nat.le_refl _) _⟩
end

section
open Go.RowKit
set_option maxRecDepth 100000
theorem arg_num (n : Int) (w : World) : ArgP w (.mk 3 n ⟨#[]⟩ []) (.agg #[.int .i64 3, .int .i64 n, .string ⟨#[]⟩, .slice none 0 0]) := ⟨by decide, by decide, none, 0, rfl, by simp⟩
theorem arg_text (t : ByteArray) (ht : t.size ≤ 140737488355328) (w : World) : ArgP w (.mk 4 0 t []) (.agg #[.int .i64 4, .int .i64 0, .string t, .slice none 0 0]) := ⟨ht, by decide, none, 0, rfl, by simp⟩
theorem arg_zero (w : World) : ArgP w (.mk 0 0 ⟨#[]⟩ []) (.agg #[.int .i64 0, .int .i64 0, .string ⟨#[]⟩, .slice none 0 0]) := ⟨by decide, by decide, none, 0, rfl, by simp⟩
theorem pair_in (w : World) : InPs (w.alloc (.cells #[.int .i64 1, .int .i64 0, .string ⟨#[]⟩, .slice none 0 0, .int .i64 4, .int .i64 0, .string ⟨#[97, 34]⟩, .slice none 0 0] 24)) w.heap.size 0 [.mk 1 0 ⟨#[]⟩ [], .mk 4 0 ⟨#[97, 34]⟩ []] := by
  have h := fun j => Lib.cell_of_heap (heap_alloc_new w (.cells #[.int .i64 1, .int .i64 0, .string ⟨#[]⟩, .slice none 0 0, .int .i64 4, .int .i64 0, .string ⟨#[97, 34]⟩, .slice none 0 0] 24)) j
  exact ⟨⟨by decide, by decide, none, 0, ⟨(h 0).trans rfl, (h 1).trans rfl, (h 2).trans rfl, (h 3).trans rfl⟩, by simp⟩, ⟨by decide, by decide, none, 0, ⟨(h 4).trans rfl, (h 5).trans rfl, (h 6).trans rfl, (h 7).trans rfl⟩, by simp⟩, trivial⟩
set_option maxHeartbeats 4000000 in
theorem begun_any (w : World) (ht : Tabs w) (h5 : 5 ≤ w.heap.size) : Calls Tryd.prog 8 #[] w (RetB w (.bool true)) := by
  have HT := Lib.hid ht
  clear ht
  go_enter Tryd.func8, Tryd.ntmps8
  go_wp2_with fail
  refine (num_any _ _).mono ?_
  rintro e w1 ⟨rfl, hb1⟩
  have B1 := hb1
  clear hb1
  go_wp2_with fail
  refine (of_yes _ _ _ (arg_num 5 w1) (by kernel_rfl)).mono ?_
  rintro e w2 ⟨v, bs, rfl, hv, _, _, hb2⟩
  obtain ⟨rfl, _⟩ : v = .iface 58 (.int .i64 5) ∧ bs = [] := hv
  have B2 := B1.trans (hb2.mono B1.size)
  clear hb2 B1
  go_wp2_with fail
  refine (textp_any _ _).mono ?_
  rintro e w3 ⟨rfl, hb3⟩
  have B3 := B2.trans (hb3.mono B2.size)
  clear hb3 B2
  go_wp2_with fail
  refine (listp_any _ _ _ _).mono ?_
  rintro e w4 ⟨rfl, hb4⟩
  have B4 : Below w.heap.size w w4 := (B3.trans ((alloc_below' w3 _).mono B3.size)).trans (hb4.mono (by have := B3.size; simp; omega))
  have HA := Lib.hid (InPs.below hb4 _ _ _ (pair_in w3))
  clear hb4 B3
  go_wp2_with fail
  refine (text_any (.mk 5 0 ⟨#[]⟩ [.mk 1 0 ⟨#[]⟩ [], .mk 4 0 ⟨#[97, 34]⟩ []]) _ _ ⟨by decide, by decide, _, 2, rfl, fun _ => ⟨_, _, rfl, HA.out⟩⟩ (by simp [okP, okPs]) (HT.out.below B4 h5) (Nat.le_trans h5 B4.size)).mono ?_
  rw [ex_text]
  rintro e w5 ⟨rfl, hb5⟩
  have B5 := B4.trans (hb5.mono B4.size)
  clear hb5 B4 HA
  go_wp2_with fail
  refine (read_short _ _ (by decide) (HT.out.below B5 h5) (Nat.le_trans h5 B5.size)).mono ?_
  rw [ex_read]
  intro e w6 hq
  obtain ⟨v, bs, rfl, hrv, _, _, hb6⟩ : ReadP w5 (.ok (.list [.int 1, .truth true])) e w6 := hq
  obtain ⟨sv, vs, bl, rfl, hown, hrs, _⟩ := hrv
  obtain ⟨v0, vr, c0, cr, rfl, _, hv0, v1, vr1, c1, cr1, rfl, _, hv1, rfl, _⟩ := hrs
  obtain ⟨rfl, _⟩ : v0 = .iface 58 (.int .i64 1) ∧ c0 = [] := hv0
  obtain ⟨rfl, _⟩ : v1 = .iface 63 (.bool true) ∧ c1 = [] := hv1
  obtain ⟨la, lc, rfl, _, hca⟩ := own_cells hown
  obtain ⟨g, rfl, hg⟩ := hca (by decide)
  have B6 := B5.trans (hb6.mono B5.size)
  have q0 : w6.cell? ⟨g, 0, none⟩ = some (.iface 58 (.int .i64 1)) := hg 0 _ rfl
  have q1 : w6.cell? ⟨g, 1, none⟩ = some (.iface 63 (.bool true)) := hg 1 _ rfl
  clear hb6 B5 hown hca hg
  have Q0 := Lib.hid q0
  have Q1 := Lib.hid q1
  clear q0 q1
  go_wp2_with fail
  refine (read_short _ _ (by decide) (HT.out.below B6 h5) (Nat.le_trans h5 B6.size)).mono ?_
  rw [ex_007]
  intro e w7 hq
  obtain ⟨rfl, hb7⟩ : ReadP w6 (.error (1, 5)) e w7 := hq
  have B7 := B6.trans (hb7.mono B6.size)
  have Q0 := Lib.hid (cell_step Q0.out hb7)
  have Q1 := Lib.hid (cell_step Q1.out hb7)
  clear hb7 B6
  go_wp2_with fail
  refine (of_no _ _ _ (arg_zero w7) (by kernel_rfl)).mono ?_
  rintro e w8 ⟨rfl, hb8⟩
  have B8 := B7.trans (hb8.mono B7.size)
  have q0 := cell_step Q0.out hb8
  have q1 := cell_step Q1.out hb8
  clear hb8 B7
  go_wp2_with fail
  refine (textp_any _ _).mono ?_
  rintro e w9 ⟨rfl, hb9⟩
  have B9 := B8.trans (hb9.mono B8.size)
  clear hb9 B8 q0 q1
  go_wp2_with fail
  refine (size_any _ _ _ (arg_text ⟨#[97, 98]⟩ (by decide) w9)).mono ?_
  rw [show sizeP (.mk 4 0 ⟨#[97, 98]⟩ []) = 3 from by kernel_rfl]
  rintro e w10 ⟨rfl, hb10⟩
  have B10 := B9.trans (hb10.mono B9.size)
  clear hb10 B9
  go_wp2_with fail
  refine (num_any _ _).mono ?_
  rintro e w11 ⟨rfl, hb11⟩
  have B11 := B10.trans (hb11.mono B10.size)
  clear hb11 B10
  go_wp2_with fail
  refine (textp_any _ _).mono ?_
  rintro e w12 ⟨rfl, hb12⟩
  have B12 := B11.trans (hb12.mono B11.size)
  clear hb12 B11
  go_wp2_with fail
  refine (compare_walk _ _ _ _ _ (arg_num 5 w12) (arg_text ⟨#[]⟩ (by decide) w12)).mono ?_
  rw [show compP (.mk 3 5 ⟨#[]⟩ []) (.mk 4 0 ⟨#[]⟩ []) = -1 from by kernel_rfl]
  rintro e w13 ⟨rfl, hb13⟩
  have B13 := B12.trans (hb13.mono B12.size)
  clear hb13 B12
  go_wp2_with fail
  refine (num_any _ _).mono ?_
  rintro e w14 ⟨rfl, hb14⟩
  have B14 := B13.trans (hb14.mono B13.size)
  clear hb14 B13
  go_wp2_with fail
  refine (num_any _ _).mono ?_
  rintro e w15 ⟨rfl, hb15⟩
  have B15 := B14.trans (hb15.mono B14.size)
  clear hb15 B14
  go_wp2_with fail
  refine (same_any _ _ _ _ _ (arg_num 1 w15) (arg_num 1 w15)).mono ?_
  rw [show sameP (.mk 3 1 ⟨#[]⟩ []) (.mk 3 1 ⟨#[]⟩ []) = true from by kernel_rfl]
  rintro e w16 ⟨rfl, hb16⟩
  have B16 := B15.trans (hb16.mono B15.size)
  clear hb16 B15
  go_wp2_with fail
  go_ret
  exact ⟨rfl, B16⟩
end
end Go.Proofs.YtkpnnhebfaggeaaDoor
