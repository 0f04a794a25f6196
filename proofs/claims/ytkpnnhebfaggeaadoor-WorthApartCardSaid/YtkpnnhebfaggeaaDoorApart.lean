/-
  The card of WorthApart: no two lists of answers share memory, spare room neither.
  Conditions: none.
-/
import Derived.Test.YtkpnnhebfaggeaaDoorKitX
import Derived.Deep.CutRange
import Derived.StillTailTactics
import Derived.Deep.RegionHeld3
import Derived.Test.YtkpnnhebfaggeaaDoorKitS
import Derived.Test.YtkpnnhebfaggeaaDoorKitD
import Derived.Test.YtkpnnhebfaggeaaDoorCards
import Derived.Test.YtkpnnhebfaggeaaDoorTie
namespace Go.Proofs.YtkpnnhebfaggeaaDoor
section
open Go.RowKit
set_option maxRecDepth 100000
set_option maxHeartbeats 8000000 in
theorem law_apart (l : List PT) (s : ByteArray) (w : World) (v : Value) (hv : SlP w l v) (hol : okPs l) (hs : s.size ≤ 9223372036854775807) (ht : Tabs w) (h5 : 5 ≤ w.heap.size)
    (hbeg : ∀ W, Below w.heap.size w W → Calls Tryd.prog 8 #[] W (RetB W (.bool true))) : Calls Tryd.prog 6 #[v, .string s] w (RetB w (.bool true)) := by
  have g := hv
  obtain ⟨hln, la, lc, rfl, hla⟩ := g
  have HA := Lib.hid hla
  have HBG := Lib.hid hbeg
  have HOL := Lib.hid hol
  have HT := Lib.hid ht
  have H5 := Lib.hid h5
  have HS := Lib.hid hs
  clear hv hla hbeg hol ht h5 hs
  go_enter Tryd.func6, Tryd.ntmps6
  go_wp2_with fail
  refine (HBG.out w (Below.refl _ _)).mono ?_
  rintro e w1 ⟨rfl, hb0⟩
  have HAP := Lib.hid (ap_start hb0)
  clear hb0 HBG
  go_wp2_with fail
  generalize (w1.alloc (.cells #[.slice none 0 0, .slice none 0 0, .int .i64 0, .slice none 0 0] 51)) = w2 at HAP ⊢
  obtain ⟨B, hB⟩ : ∃ B, B = w1.heap.size := ⟨_, rfl⟩
  rw [← hB] at HAP ⊢
  clear hB
  go_loopw [6, 7] (fun yv iv wr => ∃ (i : Nat) (y : Int) (rows : List Rw) (lv nv kv : Value) (z : Int) (K : List Ent), i ≤ l.length ∧ i ≤ 20 ∧ iv = .int .i64 i ∧ yv = .int .i64 y ∧ 0 ≤ y ∧ y ≤ i * 65536 ∧ K.length ≤ 5 * i ∧ rows.length ≤ 210000 * i ∧ z ≤ 2097152 + 280020 * i ∧
      Hid (AP w.heap.size w B rows lv nv kv z K [] wr))
    (fun _ iv _ => l.length - (intOf iv).toNat)
  case atStart => exact ⟨0, 0, [], _, _, _, 0, [], by omega, by omega, rfl, rfl, by omega, by omega, by simp, by simp, by omega, HAP⟩
  case round =>
    obtain ⟨i, y, rows, lv, nv, kv, z, K, hi, hi20, rfl, rfl, hy0, hy1, hK, hR, hz, hAP⟩ := hrel
    by_cases hgo : i < l.length ∧ i < 20
    · obtain ⟨hlt, h20⟩ := hgo
      have hltI : (i : Int) < (l.length : Int) := by omega
      have h20I : (i : Int) < 20 := by omega
      obtain ⟨b', o', rfl, hin⟩ := HA.out (by intro h; subst h; simp at hlt)
      have hp := InPs.get l b' o' i hlt hin
      rw [Nat.mul_comm] at hp
      obtain ⟨k1, n1, s1, la1, lc1, l1, e1, hx4, hx⟩ := arg_of_in hp
      have HXC := Lib.hid hx4
      have HXW := Lib.hid hx
      have HOK := Lib.hid (okPs_at l i hlt HOL.out)
      obtain ⟨x0, x1, x2, x3⟩ := x4 HXC.out hAP.out.b
      have hsz : 0 ≤ sizeP l[i] ∧ sizeP l[i] ≤ 65536 := by
        cases hm : mayP l[i]
        · rw [sizeP_zero _ hm]; omega
        · have := sizeP_pos _ hm; omega
      clear hp hx e1 hin hx4
      go_wp2_with fail
      refine (rsize_any l[i] _ _ (HXW.out.below hAP.out.b)).mono ?_
      rintro e w2 ⟨rfl, hb2⟩
      have HA2 := Lib.hid (hAP.out.below hb2)
      clear hb2 hAP
      obtain ⟨x0, x1, x2, x3⟩ := x4 HXC.out HA2.out.b
      obtain ⟨hs0, hs1⟩ := hsz
      generalize hzz : sizeP l[i] = q at hs0 hs1 ⊢
      clear hzz
      by_cases hbig : 100000 < y + q
      · go_wp2_with fail
        go_roundw
        case rel => exact ⟨i + 1, y + q, rows, lv, nv, kv, z, K, by omega, by omega, by go_num, by go_num, by omega, by omega, by omega, by omega, by omega, HA2⟩
        case measure => simp [intOf]; omega
      · cases hm : mayP l[i]
        · have HM := Lib.hid hm
          clear hm
          go_wp2_with fail
          refine (rmay_any l[i] _ _ (HXW.out.below HA2.out.b)).mono ?_
          rintro e w3 ⟨rfl, hb3⟩
          rw [HM.out]
          have HA3 := Lib.hid (HA2.out.below hb3)
          clear hb3
          go_wp2_with fail
          go_roundw
          case rel => exact ⟨i + 1, y + q, rows, lv, nv, kv, z, K, by omega, by omega, by go_num, by go_num, by omega, by omega, by omega, by omega, by omega, HA3⟩
          case measure => simp [intOf]; omega
        · have HM := Lib.hid hm
          clear hm
          go_wp2_with fail
          refine (rmay_any l[i] _ _ (HXW.out.below HA2.out.b)).mono ?_
          rintro e w3 ⟨rfl, hb3⟩
          rw [HM.out]
          have HA3 := Lib.hid (HA2.out.below hb3)
          clear hb3 HA2
          obtain ⟨x0, x1, x2, x3⟩ := x4 HXC.out HA3.out.b
          go_wp2_with fail
          refine (of_yes l[i] w3 _ (HXW.out.below HA3.out.b) HM.out).mono ?_
          rintro e w4 ⟨v4, b4, rfl, hv4, hn4, hg4, hb4⟩
          have HE4 := Lib.hid (ent_val hv4 (Nat.le_trans (nodes_may HM.out) (by omega)) hn4 hg4 hb4)
          obtain ⟨ty4, u4', rfl⟩ := hv4.iface
          obtain ⟨t4, c4, hA4⟩ := HA3.out.ent HE4.out
          have HA4 := Lib.hid hA4
          have HV4 := Lib.hid hv4
          clear hA4 hv4 hn4 hg4 hb4 HE4 HA3
          obtain ⟨x0, x1, x2, x3⟩ := x4 HXC.out HA4.out.b
          go_wp2_with fail
          have hBd : Below w4.heap.size w4 w4.drew := (Below.refl _ _).drew
          have HJ := Lib.hid (join_three' HM.out (HXW.out.below HA4.out.b))
          go_region_held3 (fun w' => w'.cell? ⟨b', o' + i * 4, none⟩ = some (.int .i64 k1) ∧ w'.cell? ⟨b', o' + i * 4 + 1, none⟩ = some (.int .i64 n1) ∧ w'.cell? ⟨b', o' + i * 4 + 2, none⟩ = some (.string s1) ∧ w'.cell? ⟨b', o' + i * 4 + 3, none⟩ = some (.slice la1 l1.length lc1) ∧ Below w4.heap.size w4 w')
            (first | exact ⟨x0, x1, x2, x3, hBd⟩ | (refine S4' x0 x1 x2 x3 ?_; repeat (first | exact hBd | exact Below.refl _ _ | exact hE.2.1 | refine below_drewA ?_ | refine below_allocA ?_ _)) | assumption)
            (first | (go_at_call 17; ((with_reducible refine HJ.out.mono ?_); rintro e w5 ⟨v5, x5, rfl, hE⟩)))
          obtain ⟨t5, c5, hA5⟩ := HA4.out.ent hE
          have HA5 := Lib.hid hA5
          have HF5 := Lib.hid hE.1
          have HV5 := Lib.hid (RepV.keep (w' := w5) _ _ _ (fun g hg => hE.2.1.block g (RepV.lt _ _ _ HV4.out g hg)) HV4.out)
          rename_i hS
          clear hA5 hE hS HJ hBd HA4 HV4
          obtain ⟨x0, x1, x2, x3⟩ := x4 HXC.out HA5.out.b
          obtain ⟨m1, m2, m3, m4⟩ := may_plain l[i] 65536 0 (by omega) (by omega) HM.out
          have m5 := meas_bd l[i] 65536 0 HM.out
          have HIS := Lib.hid (is_any (valOf l[i]) l[i] w5 _ _ b4 HV5.out m1 (HXW.out.below HA5.out.b) (by omega) (by omega) m4)
          clear m1 m2 m3 m4 m5
          go_wp2_with fail
          refine HIS.out.mono ?_
          rintro e w6 ⟨rfl, hb6⟩
          have HA6 := Lib.hid (HA5.out.below hb6)
          clear hb6 HIS HV5 HA5
          obtain ⟨x0, x1, x2, x3⟩ := x4 HXC.out HA6.out.b
          go_wp2_with fail
          refine (text_any l[i] w6 _ (HXW.out.below HA6.out.b) HOK.out (HT.out.below HA6.out.b H5.out) (Nat.le_trans H5.out HA6.out.b.size)).mono ?_
          rintro e w7 ⟨rfl, hb7⟩
          have HA7 := Lib.hid (HA6.out.below hb7)
          clear hb7 HA6 x0 x1 x2 x3
          go_upto_if 104 with fail
          go_cut [12, 13] from 95 to 131 (fun _ _ wx => ∃ (rows2 : List Rw) (lv2 nv2 kv2 : Value) (z2 : Int) (K2 : List Ent), K2.length ≤ K.length + 2 ∧ rows2.length ≤ rows.length + 70000 ∧ z2 ≤ max z 2097152 + 140010 ∧
            Hid (AP w.heap.size w B rows2 lv2 nv2 kv2 z2 K2 [(t4, .iface ty4 u4', c4), (t5, v5, c5)] wx))
          case first =>
            rcases textP_casesA l[i] with ⟨htp, hlen⟩ | ⟨e1, he1, htp⟩
            · rw [htp]
              have HLN := Lib.hid hlen
              clear htp hlen
              go_wp2_with fail
              refine (read_may HM.out HOK.out HLN.out w7 (HT.out.below HA7.out.b H5.out) (Nat.le_trans H5.out HA7.out.b.size)).mono ?_
              rintro e w8 ⟨tyx, ux, ax, cx, rfl, hE⟩
              obtain ⟨tx, bx, hA⟩ := HA7.out.ent hE
              have HA8 := Lib.hid hA
              clear hE hA HA7
              go_wp2_with fail
              refine (read_may HM.out HOK.out HLN.out w8 (HT.out.below HA8.out.b H5.out) (Nat.le_trans H5.out HA8.out.b.size)).mono ?_
              rintro e w9 ⟨tyy, uy, ay, cy, rfl, hE⟩
              obtain ⟨ty', by', hA⟩ := HA8.out.ent hE
              have HA9 := Lib.hid hA
              clear hE hA HA8
              go_wp2_with fail
              refine (read_may HM.out HOK.out HLN.out w9 (HT.out.below HA9.out.b H5.out) (Nat.le_trans H5.out HA9.out.b.size)).mono ?_
              rintro e w10 ⟨tyz, uz, az, cz, rfl, hE⟩
              obtain ⟨tz, bz, hA⟩ := HA9.out.ent hE
              have HA10 : Hid (AP w.heap.size w B rows lv nv kv z K ([(t4, .iface ty4 u4', c4), (t5, v5, c5)] ++ [(tx, .iface tyx ux, bx), (ty', .iface tyy uy, by')] ++ [(tz, .iface tyz uz, bz)]) w10) := Lib.hid hA
              clear hE hA HA9
              go_wp2_with fail
              refine (HA10.out.keep2 (by omega)).mono ?_
              rintro e w11 ⟨rfl, kv2, hA⟩
              have HA11 : Hid (AP w.heap.size w B rows lv nv kv2 z (K ++ [(tx, .iface tyx ux, bx), (ty', .iface tyy uy, by')]) ([(t4, .iface ty4 u4', c4), (t5, v5, c5)] ++ [(tz, .iface tyz uz, bz)] ++ []) w11) := Lib.hid hA
              clear hA HA10
              go_wp2_with fail
              refine (HA11.out.take1 (by omega) (by omega)).mono ?_
              rintro e w12 ⟨rfl, rows2, lv2, nv2, z2, hA, hr2, hz2⟩
              have HA12 := Lib.hid hA
              clear hA HA11
              go_wp2_with fail
              go_meet
              exact ⟨rows ++ rows2, lv2, nv2, kv2, z2, _, by simp, by rw [List.length_append]; omega, hz2, HA12⟩
            · rw [htp]
              clear htp
              rcases he1 with rfl | rfl
              all_goals
                go_wp2_with fail
                go_meet
                exact ⟨rows, lv, nv, kv, z, K, by omega, by omega, by omega, HA7⟩
          case rest =>
            obtain ⟨rows2, lv2, nv2, kv2, z2, K2, hK2, hR2, hz2, HA8⟩ := hcut
            clear HA7
            obtain ⟨x0, x1, x2, x3⟩ := x4 HXC.out HA8.out.b
            go_wp2_with fail
            refine (of_yes l[i] wc _ (HXW.out.below HA8.out.b) HM.out).mono ?_
            rintro e w9 ⟨v9, b9, rfl, hv9, hn9, hg9, hb9⟩
            have HE9 := Lib.hid (ent_val hv9 (Nat.le_trans (nodes_may HM.out) (by omega)) hn9 hg9 hb9)
            obtain ⟨ty9, u9', rfl⟩ := hv9.iface
            obtain ⟨t9, c9, hA9⟩ := HA8.out.ent HE9.out
            have HA9 := Lib.hid hA9
            clear hA9 hv9 hn9 hg9 hb9 HE9 HA8
            obtain ⟨x0, x1, x2, x3⟩ := x4 HXC.out HA9.out.b
            go_wp2_with fail
            have hBd : Below w9.heap.size w9 w9.drew := (Below.refl _ _).drew
            have HJ := Lib.hid (join_three' HM.out (HXW.out.below HA9.out.b))
            go_region_held3 (fun w' => w'.cell? ⟨b', o' + i * 4, none⟩ = some (.int .i64 k1) ∧ w'.cell? ⟨b', o' + i * 4 + 1, none⟩ = some (.int .i64 n1) ∧ w'.cell? ⟨b', o' + i * 4 + 2, none⟩ = some (.string s1) ∧ w'.cell? ⟨b', o' + i * 4 + 3, none⟩ = some (.slice la1 l1.length lc1) ∧ Below w9.heap.size w9 w')
              (first | exact ⟨x0, x1, x2, x3, hBd⟩ | (refine S4' x0 x1 x2 x3 ?_; repeat (first | exact hBd | exact Below.refl _ _ | exact hE.2.1 | refine below_drewA ?_ | refine below_allocA ?_ _)) | assumption)
              (first | (go_at_call 17; ((with_reducible refine HJ.out.mono ?_); rintro e w10 ⟨v10, x10, rfl, hE⟩)))
            obtain ⟨t10, c10, hA10⟩ := HA9.out.ent hE
            have HA10 : Hid (AP w.heap.size w B rows2 lv2 nv2 kv2 z2 K2 ([(t4, .iface ty4 u4', c4), (t5, v5, c5)] ++ [(t9, .iface ty9 u9', c9), (t10, v10, c10)] ++ []) w10) := Lib.hid hA10
            have hF10 := hE.1
            rename_i hS
            clear hA10 hE hS HJ hBd HA9
            obtain ⟨x0, x1, x2, x3⟩ := x4 HXC.out HA10.out.b
            rcases hF10 with rfl | ⟨ty10, u10', rfl⟩
            all_goals
              go_wp2_with fail
              refine (HA10.out.keep2 (by omega)).mono ?_
              rintro e w11 ⟨rfl, kv3, hA⟩
              have HA11 := Lib.hid hA
              clear hA HA10
              obtain ⟨x0, x1, x2, x3⟩ := x4 HXC.out HA11.out.b
              go_wp2_with fail
              refine (of_yes l[i] w11 _ (HXW.out.below HA11.out.b) HM.out).mono ?_
              rintro e w12 ⟨v12, b12, rfl, hv12, hn12, hg12, hb12⟩
              have HE12 := Lib.hid (ent_val hv12 (Nat.le_trans (nodes_may HM.out) (by omega)) hn12 hg12 hb12)
              obtain ⟨ty12, u12', rfl⟩ := hv12.iface
              obtain ⟨t12, c12, hA12⟩ := HA11.out.ent HE12.out
              have hA12' := hA12
              rw [List.append_nil] at hA12'
              have HA12 := Lib.hid hA12'
              clear hA12 hA12' hv12 hn12 hg12 hb12 HE12 HA11
              go_wp2_with fail
              refine (AP.keep1 (A := [(t4, .iface ty4 u4', c4), (t5, v5, c5)]) (C := []) (by simpa using HA12.out) (by simp; omega)).mono ?_
              rintro e w13 ⟨rfl, kv4, hA⟩
              have HA13 := Lib.hid hA
              clear hA HA12
              rcases HF5.out with rfl | ⟨ty5, u5', rfl⟩
              all_goals
                go_wp2_with fail
                refine (AP.take2 (A := []) (C := []) (by simpa using HA13.out) (by omega) (by omega)).mono ?_
                rintro e w14 ⟨rfl, rows3, lv3, nv3, z3, hA, hr3, hz3⟩
                have HA14 := Lib.hid hA
                clear hA HA13
                go_wp2_with fail
                go_roundw
                case rel => exact ⟨i + 1, y + q, rows2 ++ rows3, lv3, nv3, kv4, z3, _, by omega, by omega, by go_num, by go_num, by omega, by omega, by simp; omega, by rw [List.length_append]; omega, by omega, HA14⟩
                case measure => simp [intOf]; omega
    · have hdis : (¬ (i : Int) < (l.length : Int)) ∨ ((i : Int) < (l.length : Int) ∧ ¬ (i : Int) < 20) := by omega
      clear hgo
      rcases hdis with hI | ⟨hI, hI2⟩
      all_goals
        by_cases hsz : s.size < 262144
        · have hsI : (s.size : Int) < 262144 := by omega
          have HSZ : Hid (s.size ≤ 1048576) := Lib.hid (by omega)
          clear hsz
          go_wp2_with fail
          refine (read_str HSZ.out wr (HT.out.below hAP.out.b H5.out) (Nat.le_trans H5.out hAP.out.b.size)).mono ?_
          rintro e w3 ⟨v3, a3, c3, rfl, hE⟩
          obtain ⟨t3, b3, hA⟩ := hAP.out.ent hE
          have HA3 := Lib.hid hA
          have hF := hE.1
          clear hE hA hAP
          rcases hF with rfl | ⟨ty3, u3', rfl⟩
          all_goals
            go_wp2_with fail
            refine (AP.take1 (A := []) (C := []) (by simpa using HA3.out) (by omega) (by omega)).mono ?_
            rintro e w4 ⟨rfl, rows2, lv2, nv2, z2, hA, hr2, hz2⟩
            have HA4 := Lib.hid hA
            clear hA HA3
            go_wp2_with fail
            refine (AP.whole_call HA4.out (by omega) (by rw [List.length_append]; omega) (by omega)).mono ?_
            rintro e w5 ⟨rfl, hb5⟩
            go_wp2_with fail
            go_ret
            exact ⟨rfl, hb5⟩
        · have hsI : ¬ (s.size : Int) < 262144 := by omega
          clear hsz
          go_wp2_with fail
          refine (AP.whole_call hAP.out (by omega) (by omega) (by omega)).mono ?_
          rintro e w5 ⟨rfl, hb5⟩
          go_wp2_with fail
          go_ret
          exact ⟨rfl, hb5⟩
end

section
open Go.ChangeShapes Go.WideShapes Go.ChangeAt Go.RowKit
set_option maxRecDepth 100000
theorem lifted_worthApart (os : Os) (started : os.Started) (H : Type) (enc : TypeId × Value → H) :
    ReturnsInHanded {} Tryd.checked os 6 .any (fun w args => (Rows.worthApartSpec.pre enc Tryd.prog Tryd.f6 [] false w args ∧ laidMetH Tryd.prog laid5 w) ∧ sizedMet enc Tryd.prog Tryd.f6 (OpenSpec.ofChange Rows.worthApartSpec) false w args)
      (Rows.worthApartSpec.post enc Tryd.prog Tryd.f6 false true false false) := by
  refine returnsInHanded_of_change_and (C := Tryd.checked) (X := fun w _ => laidMetH Tryd.prog laid5 w) (fun _ _ _ hh h => h.of_heap hh) own started (by kernel_rfl) Tryd.func6
    (ChangeSpec.witness_shaped (enc := enc) (C := Tryd.checked) (os := os) (X := fun w _ => laidMetH Tryd.prog laid5 w) false (World.doorLaid Tryd.prog 400 os) #[.slice none 0 0, .string ⟨#[]⟩] 8 rfl (World.shaped_of_RefB (by kernel_rfl) (by kernel_rfl)) (by kernel_rfl) (by kernel_rfl) (by kernel_rfl) (door_met os _)) ?_
  intro W base args ds gs before hval0 hW _ hsz hL _
  have hval : ∀ (j : Nat) t v, Tryd.f6.params[j]? = some t → args[j]? = some v → Value.okWide Tryd.prog W .any base t v := hval0
  have hW' := hW
  obtain ⟨p, q, hA0, hV, rfl, hfz, hnd⟩ := hW
  have hA : DataW.TrodAll enc Tryd.prog W 0 (fun _ => true) true Tryd.f6.params.toList args.toList ds p := hA0
  rw [Tryd.params6] at hA hval
  have hA1 := hA
  obtain ⟨v0, v1, d0, d1, p0, p1, rfl, rfl, rfl, h0, h1⟩ := trodAll_two hA
  obtain ⟨rfl, rfl⟩ := trodVars_none hV
  have hz : (DataW.weightsEach Tryd.prog [22, 9] [d0, d1]).all (· ≤ reachBytes) = true := by
    have h' : (DataW.weightsEach Tryd.prog (Tryd.f6.params.toList ++ []) ([d0, d1] ++ [])).all (· ≤ reachBytes) = true := hsz
    rw [Tryd.params6] at h'
    exact h'
  obtain ⟨t0, ha0, ho0⟩ := open_slarg (hval 0 22 v0 rfl rfl) h0 (weights_at hz (j := 0) rfl rfl)
  obtain ⟨t1, ha1, ho1⟩ := open_strarg (hval 1 9 v1 rfl rfl) h1 (weights_at hz (j := 1) rfl rfl)
  obtain ⟨htab, h5⟩ := tabs_of_laid hL
  subst ha1
  clear hval0
  refine (law_apart t0 t1 W v0 ha0 ho0 ho1 htab h5 (fun w hb => (begun_any w (htab.below hb h5) (Nat.le_trans h5 hb.size)))).mono fun e W' ⟨he, hg⟩ => ?_
  subst he
  simp only [List.append_nil] at hW'
  refine ⟨_, rfl, post_below (pv := []) hW' (fun _ _ _ => (trodAll_cons_mk (shut_bool Tryd.underlying4 _) trodAll_mk0)) ?_ (fun _ _ => rfl) (List.append_nil _).symm hg (ok_one (by kernel_rfl) rfl (okWide_bool_mk Tryd.underlying4 _))⟩
  intro sp hsp
  have hA2 : DataW.TrodAll enc Tryd.prog W' 0 sp true Tryd.f6.params.toList [v0, .string t1] [d0, d1] (p0 ++ p1) :=
    DataW.TrodAll.respare kidsT fullT (by rw [Tryd.params6]; decide) (trodAll_below hg (by rw [Tryd.params6]; exact hA1) (fun x hx => hW'.lt x hx)) hsp
  exact hA2
theorem over_worthApart : Rows.worthApartRow.holds Tryd.pinned (OpenSpec.ofChange Rows.worthApartSpec) :=
  OpenClaim.holds_of_wide 6 Tryd.f6 rfl rfl rfl rfl rfl rfl rfl ⟨rfl, rfl, rfl, rfl, rfl⟩ rfl rfl rfl rfl rfl (by kernel_rfl) Tryd.func6 (by kernel_rfl)
    (of_decide_eq_true (by kernel_rfl)) (by unfold Func.isWrapper; first | (rw [if_pos (by decide +kernel)]; kernel_rfl) | (rw [if_neg (by decide +kernel)]; exact ⟨rfl, rfl⟩))
    (fun os started H enc _ => lifted_worthApart os started H enc)
theorem worthApart_holds : Rows.WorthApartCardSaid :=
  Claim7.holds_tied_plain_at .later [] [.data, .data, .data, .sentinel, .sentinel] true (true, "87952721e25b2d47a731b52e3a2efbd7654279aba4613bb3f954613407b7271a") true
    over_worthApart (fun _ h => by cases h) (by kernel_rfl) (fun _ h => by cases h) worthApart_row_tie rfl ⟨rfl, rfl⟩ (by kernel_rfl) rfl
    (fun f fn hf hfn => by
      obtain rfl : f = 6 := Option.some.inj ((show Tryd.prog.funcNamed "espalier/espalierlaw2.WorthApart" = some 6 by kernel_rfl).symm.trans hf) |>.symm
      obtain rfl : fn = Tryd.f6 := (Option.some.inj (Tryd.func6.symm.trans hfn)).symm
      exact ⟨by kernel_rfl, fun j t ht => by
        rw [Tryd.params6] at ht
        rcases j with _ | _ | j
        · obtain rfl : t = 22 := by simpa using ht.symm
          exact (show Tryd.prog.wantsStandIn 22 = false by kernel_rfl)
        · obtain rfl : t = 9 := by simpa using ht.symm
          exact (show Tryd.prog.wantsStandIn 9 = false by kernel_rfl)
        · simp at ht⟩)
    (by kernel_rfl)
#print axioms worthApart_holds
end
end Go.Proofs.YtkpnnhebfaggeaaDoor
