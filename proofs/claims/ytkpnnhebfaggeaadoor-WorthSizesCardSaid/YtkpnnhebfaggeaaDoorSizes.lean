/-
  The card of WorthSizes: a list's size is 1 and those of what is in it; lists are joined just where that may be.
  Conditions: none.
-/
import Derived.Test.YtkpnnhebfaggeaaDoorKitP
import Derived.Test.YtkpnnhebfaggeaaDoorKitD
import Derived.Test.YtkpnnhebfaggeaaDoorKitS
import Derived.Test.YtkpnnhebfaggeaaDoorCards
import Derived.Test.YtkpnnhebfaggeaaDoorTie
namespace Go.Proofs.YtkpnnhebfaggeaaDoor
section
open Go.RowKit
set_option maxRecDepth 100000
set_option maxHeartbeats 4000000 in
theorem law_sizes (l : List PT) (w : World) (v : Value) (hv : SlP w l v) (hbeg : ∀ W, Below w.heap.size w W → Calls Tryd.prog 8 #[] W (RetB W (.bool true))) : Calls Tryd.prog 5 #[v] w (RetB w (.bool true)) := by
  have g := hv
  obtain ⟨hln, la, lc, rfl, hla⟩ := g
  have HV := Lib.hid hv
  have HA := Lib.hid hla
  have HBG := Lib.hid hbeg
  clear hv hla hbeg
  go_enter Tryd.func5, Tryd.ntmps5
  go_wp2_with fail
  refine (HBG.out w (Below.refl _ _)).mono ?_
  rintro e w1 ⟨rfl, hb0⟩
  have HB0 := Lib.hid hb0
  clear hb0 HBG
  go_wp2_with fail
  go_loopw [3, 4] (fun nv iv wr => ∃ (i : Nat) (acc : Int), i ≤ l.length ∧ iv = .int .i64 i ∧ nv = .int .i64 acc ∧ 0 ≤ acc ∧ acc ≤ 1099511627776 ∧ Hid (Below w.heap.size w wr) ∧ Hid (allMay (l.take i) = true) ∧ Hid (accS (l.drop i) acc = accS l 1))
    (fun _ i _ => l.length - (intOf i).toNat)
  case atStart => exact ⟨0, 1, by omega, rfl, rfl, by omega, by omega, HB0, Lib.hid rfl, Lib.hid rfl⟩
  case round =>
    obtain ⟨i, acc, hi, rfl, rfl, ha0, ha1, hB, hall, hacc⟩ := hrel
    by_cases hlt : i < l.length
    · obtain ⟨b', o', rfl, hin⟩ := HA.out (by intro h; subst h; simp at hlt)
      have hp := InPs.get l b' o' i hlt (InPs.below hB.out _ _ _ hin)
      rw [Nat.mul_comm] at hp
      obtain ⟨k1, n1, s1, la1, lc1, l1, e1, ⟨x0, x1, x2, x3⟩, hx⟩ := arg_of_in hp
      have HX := Lib.hid hx
      have hstep : accS (l.drop i) acc = accS (l.drop (i + 1)) (min (acc + sizeP l[i]) 1099511627776) := by
        rw [List.drop_eq_getElem_cons hlt, accS]
      have HST := Lib.hid hstep
      clear hp hin hx e1 hstep
      go_wp2_with fail
      refine (size_any l[i] _ _ HX.out).mono ?_
      rintro e w2 ⟨rfl, hb2⟩
      have y0 := cell_stepA x0 hb2
      have y1 := cell_stepA x1 hb2
      have y2 := cell_stepA x2 hb2
      have y3 := cell_stepA x3 hb2
      have HX2 := Lib.hid (HX.out.below hb2)
      have HB2 := Lib.hid (hB.out.trans (hb2.mono hB.out.size))
      clear x0 x1 x2 x3 hb2
      cases hm : mayP l[i]
      · have HM := Lib.hid hm
        have HN := Lib.hid (allMay_no hlt hm)
        rw [sizeP_zero _ hm]
        clear hm
        go_wp2_with fail
        refine (may_any l[i] _ _ HX2.out).mono ?_
        rintro e w3 ⟨rfl, hb3⟩
        rw [HM.out]
        have HB3 := Lib.hid (HB2.out.trans (hb3.mono HB2.out.size))
        clear hb3
        go_wp2_with fail
        refine (join_any l _ _ (HV.out.below HB3.out)).mono ?_
        rintro e w4 ⟨hno, _⟩
        obtain ⟨rfl, hb4⟩ := hno HN.out
        have HB4 := Lib.hid (HB3.out.trans (hb4.mono HB3.out.size))
        clear hb4 hno
        go_wp2_with fail
        go_ret
        exact ⟨rfl, HB4.out⟩
      · have HM := Lib.hid hm
        have HN := Lib.hid (allMay_take hlt hall.out hm)
        obtain ⟨hz1, hz2⟩ := sizeP_pos _ hm
        clear hm
        have hst := HST.out
        generalize sizeP l[i] = z at hz1 hz2 hst ⊢
        have HST := Lib.hid hst
        clear hst
        go_wp2_with fail
        refine (may_any l[i] _ _ HX2.out).mono ?_
        rintro e w3 ⟨rfl, hb3⟩
        rw [HM.out]
        have HB3 := Lib.hid (HB2.out.trans (hb3.mono HB2.out.size))
        clear hb3
        go_wp2_with fail
        go_roundw
        case rel => exact ⟨i + 1, min (acc + z) 1099511627776, by omega, by go_num, by go_num, by omega, by omega, HB3, HN, Lib.hid (HST.out.symm.trans hacc.out)⟩
        case measure => simp [intOf]; omega
    · obtain rfl : i = l.length := by omega
      have HAL := Lib.hid (show allMay l = true by have := hall.out; rwa [List.take_length] at this)
      have HAC := Lib.hid (show acc = accS l 1 by have := hacc.out; rwa [List.drop_length, accS] at this)
      clear hall hacc
      go_wp2_with fail
      refine (join_any l _ _ (HV.out.below hB.out)).mono ?_
      rintro e w2 ⟨_, hno, hyes⟩
      cases hm : mayP (.mk 5 0 ⟨#[]⟩ l)
      · obtain ⟨rfl, hb2⟩ := hno HAL.out hm
        have HM := Lib.hid hm
        have HB2 := Lib.hid (hB.out.trans (hb2.mono hB.out.size))
        clear hb2 hm hno hyes
        go_wp2_with fail
        refine (listp_any _ _ _ _).mono ?_
        rintro e w3 ⟨rfl, hb3⟩
        have HB3 := Lib.hid (HB2.out.trans (hb3.mono HB2.out.size))
        have HW := Lib.hid (HV.out.below HB3.out).arg
        clear hb3
        go_wp2_with fail
        refine (may_any _ _ _ (HW.out.below (alloc_below _ _))).mono ?_
        rintro e w4 ⟨rfl, hb4⟩
        rw [HM.out]
        have HB4 := Lib.hid ((HB3.out.alloc HB3.out.size _).trans (hb4.mono (by have := HB3.out.size; simp; omega)))
        clear hb4
        go_wp2_with fail
        go_ret
        exact ⟨rfl, HB4.out⟩
      · obtain ⟨x, bs, rfl, hx, _, _, hb2⟩ := hyes hm
        obtain ⟨ty, u, rfl⟩ := hx.iface
        have HM := Lib.hid hm
        have HX := Lib.hid hx
        have HB2 := Lib.hid (hB.out.trans (hb2.mono hB.out.size))
        clear hb2 hm hno hyes hx
        go_wp2_with fail
        refine (listp_any _ _ _ _).mono ?_
        rintro e w3 ⟨rfl, hb3⟩
        have HB3 := Lib.hid (HB2.out.trans (hb3.mono HB2.out.size))
        have HW := Lib.hid (HV.out.below HB3.out).arg
        have HX3 := Lib.hid (RepV.keep (w' := w3) _ _ _ (fun g hg => hb3.block g (RepV.lt _ _ _ HX.out g hg)) HX.out)
        clear hb3
        go_wp2_with fail
        refine (may_any _ _ _ (HW.out.below (alloc_below _ _))).mono ?_
        rintro e w4 ⟨rfl, hb4⟩
        rw [HM.out]
        have HB4 := Lib.hid ((HB3.out.alloc HB3.out.size _).trans (hb4.mono (by have := HB3.out.size; simp; omega)))
        have hbb := (alloc_below w3 (.cells #[.int .i64 5, .int .i64 0, .string ⟨#[]⟩, .slice la l.length lc] 24)).trans (hb4.mono (by simp))
        have hc0 : CellsP (w3.alloc (.cells #[.int .i64 5, .int .i64 0, .string ⟨#[]⟩, .slice la l.length lc] 24)) w3.heap.size 0 5 0 ⟨#[]⟩ la l.length lc := cells_new w3 _ _ _ _ _
        obtain ⟨z0, z1, z2, z3⟩ := CellsP.below hb4 hc0
        have HW4 := Lib.hid (HW.out.below hbb)
        have HX4 := Lib.hid (RepV.keep (w' := w4) _ _ _ (fun g hg => hbb.block g (RepV.lt _ _ _ HX3.out g hg)) HX3.out)
        obtain ⟨N, hN⟩ : ∃ N, N = w3.heap.size := ⟨_, rfl⟩
        simp only [← hN, Nat.zero_add] at z0 z1 z2 z3 ⊢
        clear hb4 hbb hc0 hN
        go_wp2_with fail
        refine (size_any _ _ _ HW4.out).mono ?_
        rintro e w5 ⟨rfl, hb5⟩
        obtain ⟨q1, q2, _⟩ := list_size l HM.out
        have hsz : sizeP (.mk 5 0 ⟨#[]⟩ l) = acc := by rw [q1, HAC.out, accS_eq l 1 q2]
        rw [hsz]
        have y0 := cell_stepA z0 hb5
        have y1 := cell_stepA z1 hb5
        have y2 := cell_stepA z2 hb5
        have y3 := cell_stepA z3 hb5
        have HB5 := Lib.hid (HB4.out.trans (hb5.mono HB4.out.size))
        have HW5 := Lib.hid (HW4.out.below hb5)
        have HX5 := Lib.hid (RepV.keep (w' := w5) _ _ _ (fun g hg => hb5.block g (RepV.lt _ _ _ HX4.out g hg)) HX4.out)
        clear hb5 q1 q2 hsz z0 z1 z2 z3
        go_wp2_with fail
        obtain ⟨m1, m2, m3, m4⟩ := may_plain _ 65536 0 (by omega) (by omega) (show (meas (.mk 5 0 ⟨#[]⟩ l) 65536 0).2 = true from HM.out)
        have m5 := meas_bd (.mk 5 0 ⟨#[]⟩ l) 65536 0 HM.out
        refine (is_any _ _ _ _ _ _ HX5.out m1 HW5.out (by omega) (by omega) m4).mono ?_
        rintro e w6 ⟨rfl, hb6⟩
        have HB6 := Lib.hid (HB5.out.trans (hb6.mono HB5.out.size))
        clear m1 m2 m3 m4 m5 hb6
        go_wp2_with fail
        go_ret
        exact ⟨rfl, HB6.out⟩
end

section
open Go.ChangeShapes Go.WideShapes Go.ChangeAt Go.RowKit
set_option maxRecDepth 100000
theorem lifted_worthSizes (os : Os) (started : os.Started) (H : Type) (enc : TypeId × Value → H) :
    ReturnsInHanded {} Tryd.checked os 5 .any (fun w args => (Rows.worthSizesSpec.pre enc Tryd.prog Tryd.f5 [] false w args ∧ laidMetH Tryd.prog laid5 w) ∧ sizedMet enc Tryd.prog Tryd.f5 (OpenSpec.ofChange Rows.worthSizesSpec) false w args)
      (Rows.worthSizesSpec.post enc Tryd.prog Tryd.f5 false true false false) := by
  refine returnsInHanded_of_change_and (C := Tryd.checked) (X := fun w _ => laidMetH Tryd.prog laid5 w) (fun _ _ _ hh h => h.of_heap hh) own started (by kernel_rfl) Tryd.func5
    (ChangeSpec.witness_shaped (enc := enc) (C := Tryd.checked) (os := os) (X := fun w _ => laidMetH Tryd.prog laid5 w) false (World.doorLaid Tryd.prog 400 os) #[.slice none 0 0] 8 rfl (World.shaped_of_RefB (by kernel_rfl) (by kernel_rfl)) (by kernel_rfl) (by kernel_rfl) (by kernel_rfl) (door_met os _)) ?_
  intro W base args ds gs before hval0 hW _ hsz hL _
  have hval : ∀ (j : Nat) t v, Tryd.f5.params[j]? = some t → args[j]? = some v → Value.okWide Tryd.prog W .any base t v := hval0
  have hW' := hW
  obtain ⟨p, q, hA0, hV, rfl, hfz, hnd⟩ := hW
  have hA : DataW.TrodAll enc Tryd.prog W 0 (fun _ => true) true Tryd.f5.params.toList args.toList ds p := hA0
  rw [Tryd.params5] at hA hval
  have hA1 := hA
  obtain ⟨v0, d0, rfl, rfl, h0⟩ := trodAll_one hA
  obtain ⟨rfl, rfl⟩ := trodVars_none hV
  have hz : (DataW.weightsEach Tryd.prog [22] [d0]).all (· ≤ reachBytes) = true := by
    have h' : (DataW.weightsEach Tryd.prog (Tryd.f5.params.toList ++ []) ([d0] ++ [])).all (· ≤ reachBytes) = true := hsz
    rw [Tryd.params5] at h'
    exact h'
  obtain ⟨t0, ha0, ho0⟩ := open_slarg (hval 0 22 v0 rfl rfl) h0 (weights_at hz (j := 0) rfl rfl)
  obtain ⟨htab, h5⟩ := tabs_of_laid hL
  clear hval0
  refine (law_sizes t0 W v0 ha0 (fun w hb => (begun_any w (htab.below hb h5) (Nat.le_trans h5 hb.size)))).mono fun e W' ⟨he, hg⟩ => ?_
  subst he
  simp only [List.append_nil] at hW'
  refine ⟨_, rfl, post_below (pv := []) hW' (fun _ _ _ => (trodAll_cons_mk (shut_bool Tryd.underlying4 _) trodAll_mk0)) ?_ (fun _ _ => rfl) (List.append_nil _).symm hg (ok_one (by kernel_rfl) rfl (okWide_bool_mk Tryd.underlying4 _))⟩
  intro sp hsp
  have hA2 : DataW.TrodAll enc Tryd.prog W' 0 sp true Tryd.f5.params.toList [v0] [d0] (p) :=
    DataW.TrodAll.respare kidsT fullT (by rw [Tryd.params5]; decide) (trodAll_below hg (by rw [Tryd.params5]; exact hA1) (fun x hx => hW'.lt x hx)) hsp
  exact hA2
theorem over_worthSizes : Rows.worthSizesRow.holds Tryd.pinned (OpenSpec.ofChange Rows.worthSizesSpec) :=
  OpenClaim.holds_of_wide 5 Tryd.f5 rfl rfl rfl rfl rfl rfl rfl ⟨rfl, rfl, rfl, rfl, rfl⟩ rfl rfl rfl rfl rfl (by kernel_rfl) Tryd.func5 (by kernel_rfl)
    (of_decide_eq_true (by kernel_rfl)) (by unfold Func.isWrapper; first | (rw [if_pos (by decide +kernel)]; kernel_rfl) | (rw [if_neg (by decide +kernel)]; exact ⟨rfl, rfl⟩))
    (fun os started H enc _ => lifted_worthSizes os started H enc)
theorem worthSizes_holds : Rows.WorthSizesCardSaid :=
  Claim7.holds_tied_plain_at .later [] [.data, .data, .data, .sentinel, .sentinel] true (true, "87952721e25b2d47a731b52e3a2efbd7654279aba4613bb3f954613407b7271a") true
    over_worthSizes (fun _ h => by cases h) (by kernel_rfl) (fun _ h => by cases h) worthSizes_row_tie rfl ⟨rfl, rfl⟩ (by kernel_rfl) rfl
    (fun f fn hf hfn => by
      obtain rfl : f = 5 := Option.some.inj ((show Tryd.prog.funcNamed "espalier/espalierlaw2.WorthSizes" = some 5 by kernel_rfl).symm.trans hf) |>.symm
      obtain rfl : fn = Tryd.f5 := (Option.some.inj (Tryd.func5.symm.trans hfn)).symm
      exact ⟨by kernel_rfl, fun j t ht => by
        rw [Tryd.params5] at ht
        rcases j with _ | j
        · obtain rfl : t = 22 := by simpa using ht.symm
          exact (show Tryd.prog.wantsStandIn 22 = false by kernel_rfl)
        · simp at ht⟩)
    (by kernel_rfl)
#print axioms worthSizes_holds
end
end Go.Proofs.YtkpnnhebfaggeaaDoor
