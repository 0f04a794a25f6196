/-
  The reader of numbers.
  Conditions: none.
-/
import Derived.Test.YtkpnnhebfaggeaaDoorKitB
namespace Go.Proofs.YtkpnnhebfaggeaaDoor
section
open Go.RowKit
set_option maxRecDepth 100000
set_option maxHeartbeats 8000000 in
theorem num_pos (r : Nat) (s : ByteArray) (a z : Nat) (w : World) (h : RD r s a z w) (ha : a < s.size) (hs : s.size ≤ 1048576) (ht : Tabs w) (h5 : 5 ≤ w.heap.size) (hr : 5 ≤ r) (h48 : 48 < s[a].toNat ∧ s[a].toNat ≤ 57) :
    Calls Tryd.prog 52 #[.pointer (some ⟨r, 0, none⟩)] w (ValQ r s w (numV s a (numEnd s.data.toList (a) s[a]) z)) := by
  have H := Lib.hid h
  have HT := Lib.hid ht
  obtain ⟨c0, c1, c2, f1, f2⟩ := h.cells
  clear h ht
  have b45 : ((s[a].toNat : Int) == 45) = false := by simp only [beq_eq_false_iff_ne, ne_eq]; omega
  have b48 : ((s[a].toNat : Int) != 48) = true := by simp only [bne_iff_ne, ne_eq]; omega
  have HEQ0 : Hid (numV s a (scanD s.data.toList (s.size + 1) (a + 1)) z = numV s a (numEnd s.data.toList (a) s[a]) z) := by
    show _ = _
    rw [show numEnd s.data.toList (a) s[a] = scanD s.data.toList (s.data.toList.length + 1) (a + 1) from if_neg (by omega)]
    simp
  have hlo : ¬ ((s[a].toNat : Int) < 48) := by omega
  have hhi : ¬ (57 < (s[a].toNat : Int)) := by omega
  clear h48
  go_enter Tryd.func52, Tryd.ntmps52
  go_wp2_with fail
  refine (next_byte r s a z _ H.out hs ha).mono ?_
  rintro e w1 ⟨rfl, m, rfl⟩
  go_wp2_with fail
  have HR1 := Lib.hid ((H.out.drewN m).to1 (a + 1))
  have HK1 := Lib.hid ((KB.drewN (r := r) (w := w) m).trans (KB.set 1 (.int .i64 (a + 1 : Nat))))
  go_loopw [7] (fun _ wr => ∃ (k p : Nat), a + 1 ≤ p ∧ p ≤ s.size ∧ s.size < p + k ∧ Hid (RD r s p z wr) ∧ Hid (KB r w wr) ∧ Hid (numV s a (scanD s.data.toList k p) z = numV s a (numEnd s.data.toList (a) s[a]) z)) (fun _ wr => s.size + 1 - rdAt r wr)
  case atStart => exact ⟨s.size + 1, a + 1, by omega, by omega, by omega, HR1, HK1, HEQ0⟩
  case round =>
    obtain ⟨k, p, hp0, hp, hk, hrd, hkb, heq⟩ := hrel
    obtain ⟨k, rfl⟩ : ∃ j, k = j + 1 := ⟨k - 1, by omega⟩
    obtain ⟨c0, c1, c2, f1, f2⟩ := hrd.out.cells
    have hpI : (a : Int) ≤ (p : Int) := by omega
    have hpS : (p : Int) ≤ (s.size : Int) := by omega
    by_cases hend : p = s.size
    · have hnone : s.data.toList[p]? = none := List.getElem?_eq_none (by simp; omega)
      have HEQ : Hid (numV s a (numEnd s.data.toList (a) s[a]) z = numV s a p z) := by
        show _ = _
        rw [← heq.out, scanD, hnone]
      have HE1 : Hid (RD r s s.size z wr) := by rw [← hend]; exact hrd
      have HEN := Lib.hid hend
      clear hnone hend
      go_wp2_with fail
      refine (next_end r s z _ HE1.out hs).mono ?_
      rintro e w1 ⟨rfl, m1, rfl⟩
      have hrd := Lib.hid (hrd.out.drewN m1)
      have hkb := Lib.hid (hkb.out.trans (KB.drewN m1))
      have HTW := Lib.hid (HT.out.below (hkb.out.below hr h5) (Nat.le_refl 5))
      have h5 : 5 ≤ (wr.drewN m1).heap.size := Nat.le_trans h5 hkb.out.size
      obtain ⟨c0, c1, c2, f1, f2⟩ := hrd.out.cells
      obtain ⟨w0, hw0⟩ : ∃ w0, w0 = wr.drewN m1 := ⟨_, rfl⟩
      rw [← hw0] at hrd hkb HTW h5 c0 c1 c2 f1 f2 ⊢
      clear hw0
      go_wp2_with fail
      have hBd : Below w0.heap.size w0 w0.drew := (Below.refl _ _).drew
      have HX := Lib.hid (extract_size s a (p) hs)
      cases hpar : Lib.parseIntB 64 (s.extract a (p)).data.toList with
      | ok v =>
        have HP := Lib.hid hpar
        have HV := Lib.hid (numV_ok (z := z) hpar)
        clear hpar
        go_region_held3 (fun w' => w'.cell? ⟨r, 0, none⟩ = some (.string s) ∧ w'.cell? ⟨r, 1, none⟩ = some (.int .i64 (p : Nat)) ∧ Below w0.heap.size w0 w')
          (first | exact ⟨c0, c1, hBd⟩ | exact step3 (w := w0.drew) ⟨c0, c1, hBd⟩ hb | (refine step3 ?_ hb; assumption) | assumption)
          (first | (go_at_call 61; ((with_reducible refine (parse_ok _ HX.out _ (HTW.out.below ?_ h5) _ HP.out).mono ?_); (first | assumption | (apply and3; assumption)); rintro e w1 ⟨rfl, hb⟩)))
        all_goals
          rename_i hS
          have hBW := hS.2.2
          clear hS
          go_wp2_with fail
          go_ret
          show ValP _ _ _ _ _ _
          rw [HEQ.out, HV.out]
          exact ⟨_, [], rfl, ⟨rfl, rfl⟩, by simp, by simp, hrd.out.below hBW, hkb.out.trans (KB.of_below hBW)⟩
      | _ =>
        have hno : ∀ v, Lib.parseIntB 64 (s.extract a (p)).data.toList ≠ .ok v := fun v h => by rw [hpar] at h; cases h
        have HP := Lib.hid hno
        have HV := Lib.hid (numV_no (z := z) hno)
        clear hpar hno
        go_region_held3 (fun w' => w'.cell? ⟨r, 0, none⟩ = some (.string s) ∧ w'.cell? ⟨r, 1, none⟩ = some (.int .i64 (p : Nat)) ∧ Below w0.heap.size w0 w')
          (first | exact ⟨c0, c1, hBd⟩ | exact step3 (w := w0.drew) ⟨c0, c1, hBd⟩ hb | (refine step3 ?_ hb; assumption) | assumption)
          (first | (go_at_call 61; ((with_reducible refine (parse_no _ HX.out _ (HTW.out.below ?_ h5) HP.out).mono ?_); (first | assumption | (apply and3; assumption)); rintro e w1 ⟨⟨vv, pp, rfl⟩, hb⟩)))
        all_goals
          rename_i hS
          have hBW := hS.2.2
          clear hS
          go_wp2_with fail
          refine (wrong_any r _ _ _).mono ?_
          rintro e w2 ⟨he, rfl⟩
          cases he
          go_wp2_with fail
          refine ⟨rfl, ?_⟩
          show ValP _ _ _ _ _ _
          rw [HEQ.out, HV.out]
          exact ⟨rfl, hkb.out.trans (KB.of_below hBW)⟩
    · have hlt : p < s.size := by omega
      have hsome : s.data.toList[p]? = some s[p] := by rw [List.getElem?_eq_getElem (by simpa using hlt)]; rfl
      by_cases hdg : 48 ≤ s[p].toNat ∧ s[p].toNat ≤ 57
      · have hstep : scanD s.data.toList (k + 1) p = scanD s.data.toList k (p + 1) := by rw [scanD, hsome]; simp only; rw [if_pos hdg]
        rw [hstep] at heq
        obtain ⟨g0, g1⟩ := hdg
        have n48 : ¬ ((s[p].toNat : Int) < 48) := by omega
        have n57 : ¬ (57 < (s[p].toNat : Int)) := by omega
        clear hstep hsome
        go_wp2_with fail
        refine (next_byte r s p z _ hrd.out hs hlt).mono ?_
        rintro e w1 ⟨rfl, m1, rfl⟩
        go_wp2_with fail
        go_roundw
        case rel => exact ⟨k, p + 1, by omega, by omega, by omega, Lib.hid ((hrd.out.drewN m1).to1 (p + 1)), Lib.hid ((hkb.out.trans (KB.drewN m1)).trans (KB.set 1 _)), heq⟩
        case measure => exact lt_measure hrd.out ((hrd.out.drewN m1).to1 (p + 1)) (by omega) (by omega)
      · have HEQ : Hid (numV s a (numEnd s.data.toList (a) s[a]) z = numV s a p z) := by
          show _ = _
          rw [← heq.out, scanD, hsome]
          simp only
          rw [if_neg hdg]
        have hdg' : s[p].toNat < 48 ∨ 57 < s[p].toNat := by omega
        clear hdg hsome
        rcases hdg' with hdg | hdg
        · have n48 : (s[p].toNat : Int) < 48 := by omega
          go_wp2_with fail
          refine (next_byte r s p z _ hrd.out hs hlt).mono ?_
          rintro e w1 ⟨rfl, m1, rfl⟩
          have hrd := Lib.hid (hrd.out.drewN m1)
          have hkb := Lib.hid (hkb.out.trans (KB.drewN m1))
          have HTW := Lib.hid (HT.out.below (hkb.out.below hr h5) (Nat.le_refl 5))
          have h5 : 5 ≤ (wr.drewN m1).heap.size := Nat.le_trans h5 hkb.out.size
          obtain ⟨c0, c1, c2, f1, f2⟩ := hrd.out.cells
          obtain ⟨w0, hw0⟩ : ∃ w0, w0 = wr.drewN m1 := ⟨_, rfl⟩
          rw [← hw0] at hrd hkb HTW h5 c0 c1 c2 f1 f2 ⊢
          clear hw0
          go_wp2_with fail
          have hBd : Below w0.heap.size w0 w0.drew := (Below.refl _ _).drew
          have HX := Lib.hid (extract_size s a (p) hs)
          cases hpar : Lib.parseIntB 64 (s.extract a (p)).data.toList with
          | ok v =>
            have HP := Lib.hid hpar
            have HV := Lib.hid (numV_ok (z := z) hpar)
            clear hpar
            go_region_held3 (fun w' => w'.cell? ⟨r, 0, none⟩ = some (.string s) ∧ w'.cell? ⟨r, 1, none⟩ = some (.int .i64 (p : Nat)) ∧ Below w0.heap.size w0 w')
              (first | exact ⟨c0, c1, hBd⟩ | exact step3 (w := w0.drew) ⟨c0, c1, hBd⟩ hb | (refine step3 ?_ hb; assumption) | assumption)
              (first | (go_at_call 61; ((with_reducible refine (parse_ok _ HX.out _ (HTW.out.below ?_ h5) _ HP.out).mono ?_); (first | assumption | (apply and3; assumption)); rintro e w1 ⟨rfl, hb⟩)))
            all_goals
              rename_i hS
              have hBW := hS.2.2
              clear hS
              go_wp2_with fail
              go_ret
              show ValP _ _ _ _ _ _
              rw [HEQ.out, HV.out]
              exact ⟨_, [], rfl, ⟨rfl, rfl⟩, by simp, by simp, hrd.out.below hBW, hkb.out.trans (KB.of_below hBW)⟩
          | _ =>
            have hno : ∀ v, Lib.parseIntB 64 (s.extract a (p)).data.toList ≠ .ok v := fun v h => by rw [hpar] at h; cases h
            have HP := Lib.hid hno
            have HV := Lib.hid (numV_no (z := z) hno)
            clear hpar hno
            go_region_held3 (fun w' => w'.cell? ⟨r, 0, none⟩ = some (.string s) ∧ w'.cell? ⟨r, 1, none⟩ = some (.int .i64 (p : Nat)) ∧ Below w0.heap.size w0 w')
              (first | exact ⟨c0, c1, hBd⟩ | exact step3 (w := w0.drew) ⟨c0, c1, hBd⟩ hb | (refine step3 ?_ hb; assumption) | assumption)
              (first | (go_at_call 61; ((with_reducible refine (parse_no _ HX.out _ (HTW.out.below ?_ h5) HP.out).mono ?_); (first | assumption | (apply and3; assumption)); rintro e w1 ⟨⟨vv, pp, rfl⟩, hb⟩)))
            all_goals
              rename_i hS
              have hBW := hS.2.2
              clear hS
              go_wp2_with fail
              refine (wrong_any r _ _ _).mono ?_
              rintro e w2 ⟨he, rfl⟩
              cases he
              go_wp2_with fail
              refine ⟨rfl, ?_⟩
              show ValP _ _ _ _ _ _
              rw [HEQ.out, HV.out]
              exact ⟨rfl, hkb.out.trans (KB.of_below hBW)⟩
        · have n48 : ¬ ((s[p].toNat : Int) < 48) := by omega
          have n57 : 57 < (s[p].toNat : Int) := by omega
          go_wp2_with fail
          refine (next_byte r s p z _ hrd.out hs hlt).mono ?_
          rintro e w1 ⟨rfl, m1, rfl⟩
          have hrd := Lib.hid (hrd.out.drewN m1)
          have hkb := Lib.hid (hkb.out.trans (KB.drewN m1))
          have HTW := Lib.hid (HT.out.below (hkb.out.below hr h5) (Nat.le_refl 5))
          have h5 : 5 ≤ (wr.drewN m1).heap.size := Nat.le_trans h5 hkb.out.size
          obtain ⟨c0, c1, c2, f1, f2⟩ := hrd.out.cells
          obtain ⟨w0, hw0⟩ : ∃ w0, w0 = wr.drewN m1 := ⟨_, rfl⟩
          rw [← hw0] at hrd hkb HTW h5 c0 c1 c2 f1 f2 ⊢
          clear hw0
          go_wp2_with fail
          have hBd : Below w0.heap.size w0 w0.drew := (Below.refl _ _).drew
          have HX := Lib.hid (extract_size s a (p) hs)
          cases hpar : Lib.parseIntB 64 (s.extract a (p)).data.toList with
          | ok v =>
            have HP := Lib.hid hpar
            have HV := Lib.hid (numV_ok (z := z) hpar)
            clear hpar
            go_region_held3 (fun w' => w'.cell? ⟨r, 0, none⟩ = some (.string s) ∧ w'.cell? ⟨r, 1, none⟩ = some (.int .i64 (p : Nat)) ∧ Below w0.heap.size w0 w')
              (first | exact ⟨c0, c1, hBd⟩ | exact step3 (w := w0.drew) ⟨c0, c1, hBd⟩ hb | (refine step3 ?_ hb; assumption) | assumption)
              (first | (go_at_call 61; ((with_reducible refine (parse_ok _ HX.out _ (HTW.out.below ?_ h5) _ HP.out).mono ?_); (first | assumption | (apply and3; assumption)); rintro e w1 ⟨rfl, hb⟩)))
            all_goals
              rename_i hS
              have hBW := hS.2.2
              clear hS
              go_wp2_with fail
              go_ret
              show ValP _ _ _ _ _ _
              rw [HEQ.out, HV.out]
              exact ⟨_, [], rfl, ⟨rfl, rfl⟩, by simp, by simp, hrd.out.below hBW, hkb.out.trans (KB.of_below hBW)⟩
          | _ =>
            have hno : ∀ v, Lib.parseIntB 64 (s.extract a (p)).data.toList ≠ .ok v := fun v h => by rw [hpar] at h; cases h
            have HP := Lib.hid hno
            have HV := Lib.hid (numV_no (z := z) hno)
            clear hpar hno
            go_region_held3 (fun w' => w'.cell? ⟨r, 0, none⟩ = some (.string s) ∧ w'.cell? ⟨r, 1, none⟩ = some (.int .i64 (p : Nat)) ∧ Below w0.heap.size w0 w')
              (first | exact ⟨c0, c1, hBd⟩ | exact step3 (w := w0.drew) ⟨c0, c1, hBd⟩ hb | (refine step3 ?_ hb; assumption) | assumption)
              (first | (go_at_call 61; ((with_reducible refine (parse_no _ HX.out _ (HTW.out.below ?_ h5) HP.out).mono ?_); (first | assumption | (apply and3; assumption)); rintro e w1 ⟨⟨vv, pp, rfl⟩, hb⟩)))
            all_goals
              rename_i hS
              have hBW := hS.2.2
              clear hS
              go_wp2_with fail
              refine (wrong_any r _ _ _).mono ?_
              rintro e w2 ⟨he, rfl⟩
              cases he
              go_wp2_with fail
              refine ⟨rfl, ?_⟩
              show ValP _ _ _ _ _ _
              rw [HEQ.out, HV.out]
              exact ⟨rfl, hkb.out.trans (KB.of_below hBW)⟩
set_option maxHeartbeats 8000000 in
theorem num_neg (r : Nat) (s : ByteArray) (a z : Nat) (w : World) (h : RD r s a z w) (ha : a + 1 < s.size) (hs : s.size ≤ 1048576) (ht : Tabs w) (h5 : 5 ≤ w.heap.size) (hr : 5 ≤ r) (h45 : s[a].toNat = 45) (h48 : 49 ≤ s[a + 1].toNat ∧ s[a + 1].toNat ≤ 57) :
    Calls Tryd.prog 52 #[.pointer (some ⟨r, 0, none⟩)] w (ValQ r s w (numV s a (numEnd s.data.toList (a + 1) s[a + 1]) z)) := by
  have H := Lib.hid h
  have HT := Lib.hid ht
  obtain ⟨c0, c1, c2, f1, f2⟩ := h.cells
  clear h ht
  have b45 : ((s[a].toNat : Int) == 45) = true := by rw [h45]; rfl
  have b48 : ((s[a + 1].toNat : Int) != 48) = true := by simp only [bne_iff_ne, ne_eq]; omega
  have HEQ0 : Hid (numV s a (scanD s.data.toList (s.size + 1) (a + 1 + 1)) z = numV s a (numEnd s.data.toList (a + 1) s[a + 1]) z) := by
    show _ = _
    rw [show numEnd s.data.toList (a + 1) s[a + 1] = scanD s.data.toList (s.data.toList.length + 1) (a + 1 + 1) from if_neg (by omega)]
    simp
  have hlo : ¬ ((s[a + 1].toNat : Int) < 49) := by omega
  have hhi : ¬ (57 < (s[a + 1].toNat : Int)) := by omega
  have ha0 : a < s.size := by omega
  have H45 := Lib.hid h45
  clear h48 h45
  go_enter Tryd.func52, Tryd.ntmps52
  go_wp2_with fail
  refine (next_byte r s a z _ H.out hs ha0).mono ?_
  rintro e w1 ⟨rfl, m, rfl⟩
  have HR0 := Lib.hid ((H.out.drewN m).to1 (a + 1))
  go_wp2_with fail
  refine (next_byte r s (a + 1) z _ HR0.out hs ha).mono ?_
  rintro e w1 ⟨rfl, m0, rfl⟩
  obtain ⟨d0, d1, d2, g1, g2⟩ := (HR0.out.drewN m0).cells
  have HR1 := Lib.hid ((HR0.out.drewN m0).to1 (a + 1 + 1))
  have HK1 := Lib.hid ((((KB.drewN (r := r) (w := w) m).trans (KB.set 1 (.int .i64 (a + 1 : Nat)))).trans (KB.drewN m0)).trans (KB.set 1 (.int .i64 (a + 1 + 1 : Nat))))
  go_wp2_with fail
  go_loopw [7] (fun _ wr => ∃ (k p : Nat), a + 1 + 1 ≤ p ∧ p ≤ s.size ∧ s.size < p + k ∧ Hid (RD r s p z wr) ∧ Hid (KB r w wr) ∧ Hid (numV s a (scanD s.data.toList k p) z = numV s a (numEnd s.data.toList (a + 1) s[a + 1]) z)) (fun _ wr => s.size + 1 - rdAt r wr)
  case atStart => exact ⟨s.size + 1, a + 1 + 1, by omega, by omega, by omega, HR1, HK1, HEQ0⟩
  case round =>
    obtain ⟨k, p, hp0, hp, hk, hrd, hkb, heq⟩ := hrel
    obtain ⟨k, rfl⟩ : ∃ j, k = j + 1 := ⟨k - 1, by omega⟩
    obtain ⟨c0, c1, c2, f1, f2⟩ := hrd.out.cells
    have hpI : (a : Int) ≤ (p : Int) := by omega
    have hpS : (p : Int) ≤ (s.size : Int) := by omega
    by_cases hend : p = s.size
    · have hnone : s.data.toList[p]? = none := List.getElem?_eq_none (by simp; omega)
      have HEQ : Hid (numV s a (numEnd s.data.toList (a + 1) s[a + 1]) z = numV s a p z) := by
        show _ = _
        rw [← heq.out, scanD, hnone]
      have HE1 : Hid (RD r s s.size z wr) := by rw [← hend]; exact hrd
      have HEN := Lib.hid hend
      clear hnone hend
      go_wp2_with fail
      refine (next_end r s z _ HE1.out hs).mono ?_
      rintro e w1 ⟨rfl, m1, rfl⟩
      have hrd := Lib.hid (hrd.out.drewN m1)
      have hkb := Lib.hid (hkb.out.trans (KB.drewN m1))
      have HTW := Lib.hid (HT.out.below (hkb.out.below hr h5) (Nat.le_refl 5))
      have h5 : 5 ≤ (wr.drewN m1).heap.size := Nat.le_trans h5 hkb.out.size
      obtain ⟨c0, c1, c2, f1, f2⟩ := hrd.out.cells
      obtain ⟨w0, hw0⟩ : ∃ w0, w0 = wr.drewN m1 := ⟨_, rfl⟩
      rw [← hw0] at hrd hkb HTW h5 c0 c1 c2 f1 f2 ⊢
      clear hw0
      go_wp2_with fail
      have hBd : Below w0.heap.size w0 w0.drew := (Below.refl _ _).drew
      have HX := Lib.hid (extract_size s a (p) hs)
      cases hpar : Lib.parseIntB 64 (s.extract a (p)).data.toList with
      | ok v =>
        have HP := Lib.hid hpar
        have HV := Lib.hid (numV_ok (z := z) hpar)
        clear hpar
        go_region_held3 (fun w' => w'.cell? ⟨r, 0, none⟩ = some (.string s) ∧ w'.cell? ⟨r, 1, none⟩ = some (.int .i64 (p : Nat)) ∧ Below w0.heap.size w0 w')
          (first | exact ⟨c0, c1, hBd⟩ | exact step3 (w := w0.drew) ⟨c0, c1, hBd⟩ hb | (refine step3 ?_ hb; assumption) | assumption)
          (first | (go_at_call 61; ((with_reducible refine (parse_ok _ HX.out _ (HTW.out.below ?_ h5) _ HP.out).mono ?_); (first | assumption | (apply and3; assumption)); rintro e w1 ⟨rfl, hb⟩)))
        all_goals
          rename_i hS
          have hBW := hS.2.2
          clear hS
          go_wp2_with fail
          go_ret
          show ValP _ _ _ _ _ _
          rw [HEQ.out, HV.out]
          exact ⟨_, [], rfl, ⟨rfl, rfl⟩, by simp, by simp, hrd.out.below hBW, hkb.out.trans (KB.of_below hBW)⟩
      | _ =>
        have hno : ∀ v, Lib.parseIntB 64 (s.extract a (p)).data.toList ≠ .ok v := fun v h => by rw [hpar] at h; cases h
        have HP := Lib.hid hno
        have HV := Lib.hid (numV_no (z := z) hno)
        clear hpar hno
        go_region_held3 (fun w' => w'.cell? ⟨r, 0, none⟩ = some (.string s) ∧ w'.cell? ⟨r, 1, none⟩ = some (.int .i64 (p : Nat)) ∧ Below w0.heap.size w0 w')
          (first | exact ⟨c0, c1, hBd⟩ | exact step3 (w := w0.drew) ⟨c0, c1, hBd⟩ hb | (refine step3 ?_ hb; assumption) | assumption)
          (first | (go_at_call 61; ((with_reducible refine (parse_no _ HX.out _ (HTW.out.below ?_ h5) HP.out).mono ?_); (first | assumption | (apply and3; assumption)); rintro e w1 ⟨⟨vv, pp, rfl⟩, hb⟩)))
        all_goals
          rename_i hS
          have hBW := hS.2.2
          clear hS
          go_wp2_with fail
          refine (wrong_any r _ _ _).mono ?_
          rintro e w2 ⟨he, rfl⟩
          cases he
          go_wp2_with fail
          refine ⟨rfl, ?_⟩
          show ValP _ _ _ _ _ _
          rw [HEQ.out, HV.out]
          exact ⟨rfl, hkb.out.trans (KB.of_below hBW)⟩
    · have hlt : p < s.size := by omega
      have hsome : s.data.toList[p]? = some s[p] := by rw [List.getElem?_eq_getElem (by simpa using hlt)]; rfl
      by_cases hdg : 48 ≤ s[p].toNat ∧ s[p].toNat ≤ 57
      · have hstep : scanD s.data.toList (k + 1) p = scanD s.data.toList k (p + 1) := by rw [scanD, hsome]; simp only; rw [if_pos hdg]
        rw [hstep] at heq
        obtain ⟨g0, g1⟩ := hdg
        have n48 : ¬ ((s[p].toNat : Int) < 48) := by omega
        have n57 : ¬ (57 < (s[p].toNat : Int)) := by omega
        clear hstep hsome
        go_wp2_with fail
        refine (next_byte r s p z _ hrd.out hs hlt).mono ?_
        rintro e w1 ⟨rfl, m1, rfl⟩
        go_wp2_with fail
        go_roundw
        case rel => exact ⟨k, p + 1, by omega, by omega, by omega, Lib.hid ((hrd.out.drewN m1).to1 (p + 1)), Lib.hid ((hkb.out.trans (KB.drewN m1)).trans (KB.set 1 _)), heq⟩
        case measure => exact lt_measure hrd.out ((hrd.out.drewN m1).to1 (p + 1)) (by omega) (by omega)
      · have HEQ : Hid (numV s a (numEnd s.data.toList (a + 1) s[a + 1]) z = numV s a p z) := by
          show _ = _
          rw [← heq.out, scanD, hsome]
          simp only
          rw [if_neg hdg]
        have hdg' : s[p].toNat < 48 ∨ 57 < s[p].toNat := by omega
        clear hdg hsome
        rcases hdg' with hdg | hdg
        · have n48 : (s[p].toNat : Int) < 48 := by omega
          go_wp2_with fail
          refine (next_byte r s p z _ hrd.out hs hlt).mono ?_
          rintro e w1 ⟨rfl, m1, rfl⟩
          have hrd := Lib.hid (hrd.out.drewN m1)
          have hkb := Lib.hid (hkb.out.trans (KB.drewN m1))
          have HTW := Lib.hid (HT.out.below (hkb.out.below hr h5) (Nat.le_refl 5))
          have h5 : 5 ≤ (wr.drewN m1).heap.size := Nat.le_trans h5 hkb.out.size
          obtain ⟨c0, c1, c2, f1, f2⟩ := hrd.out.cells
          obtain ⟨w0, hw0⟩ : ∃ w0, w0 = wr.drewN m1 := ⟨_, rfl⟩
          rw [← hw0] at hrd hkb HTW h5 c0 c1 c2 f1 f2 ⊢
          clear hw0
          go_wp2_with fail
          have hBd : Below w0.heap.size w0 w0.drew := (Below.refl _ _).drew
          have HX := Lib.hid (extract_size s a (p) hs)
          cases hpar : Lib.parseIntB 64 (s.extract a (p)).data.toList with
          | ok v =>
            have HP := Lib.hid hpar
            have HV := Lib.hid (numV_ok (z := z) hpar)
            clear hpar
            go_region_held3 (fun w' => w'.cell? ⟨r, 0, none⟩ = some (.string s) ∧ w'.cell? ⟨r, 1, none⟩ = some (.int .i64 (p : Nat)) ∧ Below w0.heap.size w0 w')
              (first | exact ⟨c0, c1, hBd⟩ | exact step3 (w := w0.drew) ⟨c0, c1, hBd⟩ hb | (refine step3 ?_ hb; assumption) | assumption)
              (first | (go_at_call 61; ((with_reducible refine (parse_ok _ HX.out _ (HTW.out.below ?_ h5) _ HP.out).mono ?_); (first | assumption | (apply and3; assumption)); rintro e w1 ⟨rfl, hb⟩)))
            all_goals
              rename_i hS
              have hBW := hS.2.2
              clear hS
              go_wp2_with fail
              go_ret
              show ValP _ _ _ _ _ _
              rw [HEQ.out, HV.out]
              exact ⟨_, [], rfl, ⟨rfl, rfl⟩, by simp, by simp, hrd.out.below hBW, hkb.out.trans (KB.of_below hBW)⟩
          | _ =>
            have hno : ∀ v, Lib.parseIntB 64 (s.extract a (p)).data.toList ≠ .ok v := fun v h => by rw [hpar] at h; cases h
            have HP := Lib.hid hno
            have HV := Lib.hid (numV_no (z := z) hno)
            clear hpar hno
            go_region_held3 (fun w' => w'.cell? ⟨r, 0, none⟩ = some (.string s) ∧ w'.cell? ⟨r, 1, none⟩ = some (.int .i64 (p : Nat)) ∧ Below w0.heap.size w0 w')
              (first | exact ⟨c0, c1, hBd⟩ | exact step3 (w := w0.drew) ⟨c0, c1, hBd⟩ hb | (refine step3 ?_ hb; assumption) | assumption)
              (first | (go_at_call 61; ((with_reducible refine (parse_no _ HX.out _ (HTW.out.below ?_ h5) HP.out).mono ?_); (first | assumption | (apply and3; assumption)); rintro e w1 ⟨⟨vv, pp, rfl⟩, hb⟩)))
            all_goals
              rename_i hS
              have hBW := hS.2.2
              clear hS
              go_wp2_with fail
              refine (wrong_any r _ _ _).mono ?_
              rintro e w2 ⟨he, rfl⟩
              cases he
              go_wp2_with fail
              refine ⟨rfl, ?_⟩
              show ValP _ _ _ _ _ _
              rw [HEQ.out, HV.out]
              exact ⟨rfl, hkb.out.trans (KB.of_below hBW)⟩
        · have n48 : ¬ ((s[p].toNat : Int) < 48) := by omega
          have n57 : 57 < (s[p].toNat : Int) := by omega
          go_wp2_with fail
          refine (next_byte r s p z _ hrd.out hs hlt).mono ?_
          rintro e w1 ⟨rfl, m1, rfl⟩
          have hrd := Lib.hid (hrd.out.drewN m1)
          have hkb := Lib.hid (hkb.out.trans (KB.drewN m1))
          have HTW := Lib.hid (HT.out.below (hkb.out.below hr h5) (Nat.le_refl 5))
          have h5 : 5 ≤ (wr.drewN m1).heap.size := Nat.le_trans h5 hkb.out.size
          obtain ⟨c0, c1, c2, f1, f2⟩ := hrd.out.cells
          obtain ⟨w0, hw0⟩ : ∃ w0, w0 = wr.drewN m1 := ⟨_, rfl⟩
          rw [← hw0] at hrd hkb HTW h5 c0 c1 c2 f1 f2 ⊢
          clear hw0
          go_wp2_with fail
          have hBd : Below w0.heap.size w0 w0.drew := (Below.refl _ _).drew
          have HX := Lib.hid (extract_size s a (p) hs)
          cases hpar : Lib.parseIntB 64 (s.extract a (p)).data.toList with
          | ok v =>
            have HP := Lib.hid hpar
            have HV := Lib.hid (numV_ok (z := z) hpar)
            clear hpar
            go_region_held3 (fun w' => w'.cell? ⟨r, 0, none⟩ = some (.string s) ∧ w'.cell? ⟨r, 1, none⟩ = some (.int .i64 (p : Nat)) ∧ Below w0.heap.size w0 w')
              (first | exact ⟨c0, c1, hBd⟩ | exact step3 (w := w0.drew) ⟨c0, c1, hBd⟩ hb | (refine step3 ?_ hb; assumption) | assumption)
              (first | (go_at_call 61; ((with_reducible refine (parse_ok _ HX.out _ (HTW.out.below ?_ h5) _ HP.out).mono ?_); (first | assumption | (apply and3; assumption)); rintro e w1 ⟨rfl, hb⟩)))
            all_goals
              rename_i hS
              have hBW := hS.2.2
              clear hS
              go_wp2_with fail
              go_ret
              show ValP _ _ _ _ _ _
              rw [HEQ.out, HV.out]
              exact ⟨_, [], rfl, ⟨rfl, rfl⟩, by simp, by simp, hrd.out.below hBW, hkb.out.trans (KB.of_below hBW)⟩
          | _ =>
            have hno : ∀ v, Lib.parseIntB 64 (s.extract a (p)).data.toList ≠ .ok v := fun v h => by rw [hpar] at h; cases h
            have HP := Lib.hid hno
            have HV := Lib.hid (numV_no (z := z) hno)
            clear hpar hno
            go_region_held3 (fun w' => w'.cell? ⟨r, 0, none⟩ = some (.string s) ∧ w'.cell? ⟨r, 1, none⟩ = some (.int .i64 (p : Nat)) ∧ Below w0.heap.size w0 w')
              (first | exact ⟨c0, c1, hBd⟩ | exact step3 (w := w0.drew) ⟨c0, c1, hBd⟩ hb | (refine step3 ?_ hb; assumption) | assumption)
              (first | (go_at_call 61; ((with_reducible refine (parse_no _ HX.out _ (HTW.out.below ?_ h5) HP.out).mono ?_); (first | assumption | (apply and3; assumption)); rintro e w1 ⟨⟨vv, pp, rfl⟩, hb⟩)))
            all_goals
              rename_i hS
              have hBW := hS.2.2
              clear hS
              go_wp2_with fail
              refine (wrong_any r _ _ _).mono ?_
              rintro e w2 ⟨he, rfl⟩
              cases he
              go_wp2_with fail
              refine ⟨rfl, ?_⟩
              show ValP _ _ _ _ _ _
              rw [HEQ.out, HV.out]
              exact ⟨rfl, hkb.out.trans (KB.of_below hBW)⟩
end

section
open Go.RowKit
set_option maxRecDepth 100000
def numR (s : ByteArray) (a z : Nat) : RR :=
  match s.data.toList[a]? with
  | none => .error (a, 5)
  | some c =>
    if c.toNat = 45 then
      match s.data.toList[a + 1]? with
      | none => .error (a + 1, 5)
      | some d => if 49 ≤ d.toNat ∧ d.toNat ≤ 57 then numV s a (numEnd s.data.toList (a + 1) d) z else .error (a + 1, 5)
    else if 48 ≤ c.toNat ∧ c.toNat ≤ 57 then numV s a (numEnd s.data.toList a c) z else .error (a, 5)
theorem at_some {s : ByteArray} {a : Nat} (h : a < s.size) : s.data.toList[a]? = some s[a] := by rw [List.getElem?_eq_getElem (by simpa using h)]; rfl
theorem at_none {s : ByteArray} {a : Nat} (h : a = s.size) : s.data.toList[a]? = none := List.getElem?_eq_none (by simp; omega)
set_option maxHeartbeats 4000000 in
theorem number_any (r : Nat) (s : ByteArray) (a z : Nat) (w : World) (h : RD r s a z w) (ha : a ≤ s.size) (hs : s.size ≤ 1048576) (ht : Tabs w) (h5 : 5 ≤ w.heap.size) (hr : 5 ≤ r) :
    Calls Tryd.prog 52 #[.pointer (some ⟨r, 0, none⟩)] w (ValQ r s w (numR s a z)) := by
  by_cases hend : a = s.size
  · have he : numR s a z = .error (a, 5) := by unfold numR; rw [at_none hend]
    have HE := Lib.hid he
    have H := Lib.hid h
    have H' : Hid (RD r s s.size z w) := by rw [← hend]; exact H
    obtain ⟨c0, c1, c2, f1, f2⟩ := h.cells
    have HEN := Lib.hid hend
    clear he h hend ht
    go_enter Tryd.func52, Tryd.ntmps52
    go_wp2_with fail
    refine (next_end r s z _ H'.out hs).mono ?_
    rintro e w1 ⟨rfl, m, rfl⟩
    go_wp2_with fail
    refine (wrong_any r _ _ _).mono ?_
    rintro e w1 ⟨he, rfl⟩
    cases he
    go_wp2_with fail
    refine ⟨rfl, ?_⟩
    show ValP _ _ _ _ _ _
    rw [HE.out]
    exact ⟨rfl, KB.drewN m⟩
  · have hlt : a < s.size := by omega
    by_cases h45 : s[a].toNat = 45
    · by_cases hend1 : a + 1 = s.size
      · have he : numR s a z = .error (a + 1, 5) := by unfold numR; rw [at_some hlt]; simp only; rw [if_pos h45, at_none hend1]
        have HE := Lib.hid he
        have H := Lib.hid h
        obtain ⟨c0, c1, c2, f1, f2⟩ := h.cells
        have HEN := Lib.hid hend1
        have b45 : ((s[a].toNat : Int) == 45) = true := by rw [h45]; rfl
        have H45 := Lib.hid h45
        clear he h hend ht h45
        go_enter Tryd.func52, Tryd.ntmps52
        go_wp2_with fail
        refine (next_byte r s a z _ H.out hs hlt).mono ?_
        rintro e w1 ⟨rfl, m, rfl⟩
        have HR0 := Lib.hid ((H.out.drewN m).to1 (a + 1))
        have HR1 : Hid (RD r s s.size z ((w.drewN m).setCell ⟨r, 1, none⟩ (.int .i64 (a + 1 : Nat)))) := by rw [← HEN.out]; exact HR0
        clear hend1
        go_wp2_with fail
        refine (next_end r s z _ HR1.out hs).mono ?_
        rintro e w1 ⟨rfl, m0, rfl⟩
        obtain ⟨d0, d1, d2, g1, g2⟩ := (HR0.out.drewN m0).cells
        go_wp2_with fail
        refine (wrong_any r _ _ _).mono ?_
        rintro e w1 ⟨he, rfl⟩
        cases he
        go_wp2_with fail
        refine ⟨rfl, ?_⟩
        show ValP _ _ _ _ _ _
        rw [HE.out]
        exact ⟨rfl, ((KB.drewN m).trans (KB.set 1 _)).trans (KB.drewN m0)⟩
      · have hlt1 : a + 1 < s.size := by omega
        by_cases hd : 49 ≤ s[a + 1].toNat ∧ s[a + 1].toNat ≤ 57
        · have he : numR s a z = numV s a (numEnd s.data.toList (a + 1) s[a + 1]) z := by unfold numR; rw [at_some hlt]; simp only; rw [if_pos h45, at_some hlt1]; simp only; rw [if_pos hd]
          rw [he]
          exact num_neg r s a z w h hlt1 hs ht h5 hr h45 hd
        · have he : numR s a z = .error (a + 1, 5) := by unfold numR; rw [at_some hlt]; simp only; rw [if_pos h45, at_some hlt1]; simp only; rw [if_neg hd]
          have HE := Lib.hid he
          have H := Lib.hid h
          obtain ⟨c0, c1, c2, f1, f2⟩ := h.cells
          have b45 : ((s[a].toNat : Int) == 45) = true := by rw [h45]; rfl
          have H45 := Lib.hid h45
          have hd' : s[a + 1].toNat < 49 ∨ 57 < s[a + 1].toNat := by omega
          clear he h hend ht h45 hd
          rcases hd' with hd | hd
          · have b49 : (s[a + 1].toNat : Int) < 49 := by omega
            go_enter Tryd.func52, Tryd.ntmps52
            go_wp2_with fail
            refine (next_byte r s a z _ H.out hs hlt).mono ?_
            rintro e w1 ⟨rfl, m, rfl⟩
            have HR0 := Lib.hid ((H.out.drewN m).to1 (a + 1))
            go_wp2_with fail
            refine (next_byte r s (a + 1) z _ HR0.out hs hlt1).mono ?_
            rintro e w1 ⟨rfl, m0, rfl⟩
            obtain ⟨d0, d1, d2, g1, g2⟩ := (HR0.out.drewN m0).cells
            go_wp2_with fail
            refine (wrong_any r _ _ _).mono ?_
            rintro e w1 ⟨he, rfl⟩
            cases he
            go_wp2_with fail
            refine ⟨rfl, ?_⟩
            show ValP _ _ _ _ _ _
            rw [HE.out]
            exact ⟨rfl, ((KB.drewN m).trans (KB.set 1 _)).trans (KB.drewN m0)⟩
          · have b49 : ¬ ((s[a + 1].toNat : Int) < 49) := by omega
            have b57 : 57 < (s[a + 1].toNat : Int) := by omega
            go_enter Tryd.func52, Tryd.ntmps52
            go_wp2_with fail
            refine (next_byte r s a z _ H.out hs hlt).mono ?_
            rintro e w1 ⟨rfl, m, rfl⟩
            have HR0 := Lib.hid ((H.out.drewN m).to1 (a + 1))
            go_wp2_with fail
            refine (next_byte r s (a + 1) z _ HR0.out hs hlt1).mono ?_
            rintro e w1 ⟨rfl, m0, rfl⟩
            obtain ⟨d0, d1, d2, g1, g2⟩ := (HR0.out.drewN m0).cells
            go_wp2_with fail
            refine (wrong_any r _ _ _).mono ?_
            rintro e w1 ⟨he, rfl⟩
            cases he
            go_wp2_with fail
            refine ⟨rfl, ?_⟩
            show ValP _ _ _ _ _ _
            rw [HE.out]
            exact ⟨rfl, ((KB.drewN m).trans (KB.set 1 _)).trans (KB.drewN m0)⟩
    · by_cases hd : 48 ≤ s[a].toNat ∧ s[a].toNat ≤ 57
      · have he : numR s a z = numV s a (numEnd s.data.toList a s[a]) z := by unfold numR; rw [at_some hlt]; simp only; rw [if_neg h45, if_pos hd]
        rw [he]
        by_cases h48 : s[a].toNat = 48
        · exact num_pos48 r s a z w h hlt hs ht h5 hr h48
        · exact num_pos r s a z w h hlt hs ht h5 hr ⟨by omega, hd.2⟩
      · have he : numR s a z = .error (a, 5) := by unfold numR; rw [at_some hlt]; simp only; rw [if_neg h45, if_neg hd]
        have HE := Lib.hid he
        have H := Lib.hid h
        obtain ⟨c0, c1, c2, f1, f2⟩ := h.cells
        have b45 : ((s[a].toNat : Int) == 45) = false := by simp only [beq_eq_false_iff_ne, ne_eq]; omega
        have hd' : s[a].toNat < 48 ∨ 57 < s[a].toNat := by omega
        clear he h hend ht h45 hd
        rcases hd' with hd | hd
        · have b48 : (s[a].toNat : Int) < 48 := by omega
          go_enter Tryd.func52, Tryd.ntmps52
          go_wp2_with fail
          refine (next_byte r s a z _ H.out hs hlt).mono ?_
          rintro e w1 ⟨rfl, m, rfl⟩
          go_wp2_with fail
          refine (wrong_any r _ _ _).mono ?_
          rintro e w1 ⟨he, rfl⟩
          cases he
          go_wp2_with fail
          refine ⟨rfl, ?_⟩
          show ValP _ _ _ _ _ _
          rw [HE.out]
          exact ⟨rfl, KB.drewN m⟩
        · have b48 : ¬ ((s[a].toNat : Int) < 48) := by omega
          have b57 : 57 < (s[a].toNat : Int) := by omega
          go_enter Tryd.func52, Tryd.ntmps52
          go_wp2_with fail
          refine (next_byte r s a z _ H.out hs hlt).mono ?_
          rintro e w1 ⟨rfl, m, rfl⟩
          go_wp2_with fail
          refine (wrong_any r _ _ _).mono ?_
          rintro e w1 ⟨he, rfl⟩
          cases he
          go_wp2_with fail
          refine ⟨rfl, ?_⟩
          show ValP _ _ _ _ _ _
          rw [HE.out]
          exact ⟨rfl, KB.drewN m⟩
end

section
open Go.RowKit
def wordV (t : VT) (z : Nat) : Except Nat Nat → RR
  | .error p => .error (p, 5)
  | .ok a' => .ok (t, a', z)
mutual
def valR (s : ByteArray) : Nat → Nat → Nat → Nat → RR
  | 0, a, _, _ => .error (a, 99)
  | k + 1, a, z, deep =>
    match s.data.toList[a]? with
    | none => numR s a (z + 1)
    | some c =>
      if c.toNat = 117 then wordV .unit (z + 1) (wordR s.data.toList [117, 110, 105, 116] a)
      else if c.toNat = 121 then wordV (.truth true) (z + 1) (wordR s.data.toList [121, 101, 115] a)
      else if c.toNat = 110 then wordV (.truth false) (z + 1) (wordR s.data.toList [110, 111] a)
      else if c.toNat = 34 then textV (z + 1) (textF s.data.toList (s.size + 1) (a + 1) [])
      else if c.toNat = 91 then listR s k a (z + 1) deep
      else numR s a (z + 1)
def listR (s : ByteArray) : Nat → Nat → Nat → Nat → RR
  | 0, a, _, _ => .error (a, 99)
  | k + 1, a, z, deep =>
    if deep = 64 then .error (a, 2)
    else if s.data.toList[a + 1]? = some 93 then .ok (.list [], a + 2, z)
    else elemsR s k (a + 1) z deep []
def elemsR (s : ByteArray) : Nat → Nat → Nat → Nat → List VT → RR
  | 0, a, _, _, _ => .error (a, 99)
  | k + 1, a, z, deep, acc =>
    match valR s k a z (deep + 1) with
    | .error e => .error e
    | .ok (t, a', z') =>
      if s.data.toList[a']? = some 93 then .ok (.list (acc ++ [t]), a' + 1, z')
      else if s.data.toList[a']? = some 44 then
        match wordR s.data.toList [44, 32] a' with
        | .error p => .error (p, 5)
        | .ok a'' => elemsR s k a'' z' deep (acc ++ [t])
      else .error (a', 5)
end
theorem wordR_bd {s : List UInt8} : ∀ (l : List UInt8) (a a' : Nat), a ≤ s.length → wordR s l a = .ok a' → a' = a + l.length ∧ a' ≤ s.length
  | [], a, a', ha, h => by simp only [wordR, Except.ok.injEq] at h; subst h; exact ⟨rfl, ha⟩
  | b :: l, a, a', ha, h => by
    simp only [wordR] at h
    split at h
    · rename_i hc
      have hlt := (List.getElem?_eq_some_iff.1 hc).1
      have := wordR_bd l (a + 1) a' (by omega) h
      simp only [List.length_cons]; omega
    · cases h
theorem textF_bd {s : List UInt8} : ∀ (k p : Nat) (acc acc' : List UInt8) (a' : Nat), textF s k p acc = .ok (acc', a') → p < a' ∧ a' ≤ s.length ∧ acc'.length + p < acc.length + a'
  | 0, p, acc, acc', a', h => by simp [textF] at h
  | k + 1, p, acc, acc', a', h => by
    simp only [textF] at h
    cases hc : s[p]? with
    | none => rw [hc] at h; cases h
    | some c =>
      have hlt := (List.getElem?_eq_some_iff.1 hc).1
      rw [hc] at h
      simp only at h
      split at h
      · cases h
      · split at h
        · simp only [Except.ok.injEq, Prod.mk.injEq] at h
          obtain ⟨rfl, rfl⟩ := h
          omega
        · split at h
          · split at h
            · cases h
            · rename_i x q hq
              have h1 := escR_bd hq
              have := textF_bd k (q + 1) _ _ _ h
              simp only [List.length_append, List.length_cons, List.length_nil] at this
              omega
          · have := textF_bd k (p + 1) _ _ _ h
            simp only [List.length_append, List.length_cons, List.length_nil] at this
            omega
theorem numR_bd {s : ByteArray} {a z : Nat} {t : VT} {a' z' : Nat} (h : numR s a z = .ok (t, a', z')) : a < a' ∧ a' ≤ s.size ∧ z' = z := by
  have key : ∀ b c, a ≤ b → b < s.data.toList.length → numV s a (numEnd s.data.toList b c) z = .ok (t, a', z') → a < a' ∧ a' ≤ s.size ∧ z' = z := by
    intro b c hb hlt hn
    have hsz : s.data.toList.length = s.size := by simp
    unfold numV at hn
    split at hn
    · simp only [Except.ok.injEq, Prod.mk.injEq] at hn
      obtain ⟨_, rfl, rfl⟩ := hn
      unfold numEnd
      split
      · omega
      · have := scanD_bd (s := s.data.toList) (s.data.toList.length + 1) (b + 1) (by omega)
        omega
    · cases hn
  unfold numR at h
  split at h
  · cases h
  · rename_i c hc
    have hlt := (List.getElem?_eq_some_iff.1 hc).1
    split at h
    · split at h
      · cases h
      · rename_i d hd
        have hlt2 := (List.getElem?_eq_some_iff.1 hd).1
        split at h
        · exact key _ _ (by omega) hlt2 h
        · cases h
    · split at h
      · exact key _ _ (by omega) hlt h
      · cases h
mutual
theorem valR_bd {s : ByteArray} : ∀ (k a z deep : Nat) (t : VT) (a' z' : Nat), a ≤ s.size → z ≤ a → valR s k a z deep = .ok (t, a', z') → a < a' ∧ a' ≤ s.size ∧ z' ≤ a'
  | 0, a, z, deep, t, a', z', ha, hz, h => by simp [valR] at h
  | k + 1, a, z, deep, t, a', z', ha, hz, h => by
    have hsz : s.data.toList.length = s.size := by simp
    simp only [valR] at h
    have hw : ∀ (t0 : VT) (l : List UInt8), 1 ≤ l.length → wordV t0 (z + 1) (wordR s.data.toList l a) = .ok (t, a', z') → a < a' ∧ a' ≤ s.size ∧ z' ≤ a' := by
      intro t0 l hl hv
      cases hr : wordR s.data.toList l a with
      | error p => rw [hr] at hv; cases hv
      | ok q =>
        rw [hr] at hv
        simp only [wordV, Except.ok.injEq, Prod.mk.injEq] at hv
        have := wordR_bd l a q (by omega) hr
        omega
    split at h
    · have := numR_bd h; omega
    · rename_i c hc
      have hlt := (List.getElem?_eq_some_iff.1 hc).1
      split at h
      · exact hw _ _ (by simp) h
      · split at h
        · exact hw _ _ (by simp) h
        · split at h
          · exact hw _ _ (by simp) h
          · split at h
            · cases hr : textF s.data.toList (s.size + 1) (a + 1) [] with
              | error p => rw [hr] at h; cases h
              | ok q =>
                obtain ⟨acc, q⟩ := q
                rw [hr] at h
                simp only [textV, Except.ok.injEq, Prod.mk.injEq] at h
                have := textF_bd _ _ _ _ _ hr
                simp at this
                omega
            · split at h
              · exact listR_bd k a (z + 1) deep t a' z' (by omega) (by omega) h
              · have := numR_bd h; omega
theorem listR_bd {s : ByteArray} : ∀ (k a z deep : Nat) (t : VT) (a' z' : Nat), a < s.size → z ≤ a + 1 → listR s k a z deep = .ok (t, a', z') → a < a' ∧ a' ≤ s.size ∧ z' ≤ a'
  | 0, a, z, deep, t, a', z', ha, hz, h => by simp [listR] at h
  | k + 1, a, z, deep, t, a', z', ha, hz, h => by
    have hsz : s.data.toList.length = s.size := by simp
    simp only [listR] at h
    split at h
    · cases h
    · split at h
      · rename_i hc
        have hlt := (List.getElem?_eq_some_iff.1 hc).1
        simp only [Except.ok.injEq, Prod.mk.injEq] at h
        omega
      · have := elemsR_bd k (a + 1) z deep [] t a' z' (by omega) (by omega) h
        omega
theorem elemsR_bd {s : ByteArray} : ∀ (k a z deep : Nat) (acc : List VT) (t : VT) (a' z' : Nat), a ≤ s.size → z ≤ a → elemsR s k a z deep acc = .ok (t, a', z') → a < a' ∧ a' ≤ s.size ∧ z' ≤ a'
  | 0, a, z, deep, acc, t, a', z', ha, hz, h => by simp [elemsR] at h
  | k + 1, a, z, deep, acc, t, a', z', ha, hz, h => by
    have hsz : s.data.toList.length = s.size := by simp
    simp only [elemsR] at h
    split at h
    · cases h
    · rename_i t0 a0 z0 hv
      have h0 := valR_bd k a z (deep + 1) t0 a0 z0 ha hz hv
      split at h
      · rename_i hc
        have hlt := (List.getElem?_eq_some_iff.1 hc).1
        simp only [Except.ok.injEq, Prod.mk.injEq] at h
        omega
      · split at h
        · split at h
          · cases h
          · rename_i q hq
            have h1 := wordR_bd [44, 32] a0 q (by omega) hq
            simp at h1
            have := elemsR_bd k q z0 deep _ t a' z' (by omega) (by omega) h
            omega
        · cases h
end
end
end Go.Proofs.YtkpnnhebfaggeaaDoor
