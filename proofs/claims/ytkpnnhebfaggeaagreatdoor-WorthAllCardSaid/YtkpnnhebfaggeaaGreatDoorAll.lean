/-
  The card of WorthAll: every call, in every order, answers as the document says.
  Conditions: none.
-/
import Derived.Test.YtkpnnhebfaggeaaGreatDoorKitE
import Derived.Test.YtkpnnhebfaggeaaGreatDoorCards
import Derived.Test.YtkpnnhebfaggeaaGreatDoorTie
namespace Go.Proofs.YtkpnnhebfaggeaaGreatDoor
set_option linter.unusedVariables false
set_option linter.unusedSimpArgs false
section
open Go.RowKit
set_option maxRecDepth 100000
set_option maxHeartbeats 4000000 in
theorem plays_join (a b : PT) (l : List PT) (w : World) {ka na kb nb : Int} {sa sb s : ByteArray} {la lb ll : Option Addr} {lna lca lnb lcb lnl lcl : Nat} (ha : ArgP w a (.agg #[.int .i64 ka, .int .i64 na, .string sa, .slice la lna lca])) (hb : ArgP w b (.agg #[.int .i64 kb, .int .i64 nb, .string sb, .slice lb lnb lcb])) (hl : SlP w l (.slice ll lnl lcl)) (hs : s.size ≤ 140737488355328) (ho : okP a) (hob : okP b) (ht : Tabs w) (h5 : 5 ≤ w.heap.size) :
    Calls Tryz.prog 5 #[(.agg #[.int .i64 8, .int .i64 ka, .int .i64 na, .string sa, .slice la lna lca, .int .i64 kb, .int .i64 nb, .string sb, .slice lb lnb lcb, .slice ll lnl lcl, .string s])] w (RetB w (.bool true)) := by
  have hz := heap_alloc_new w (.cells #[.int .i64 8, .int .i64 ka, .int .i64 na, .string sa, .slice la lna lca, .int .i64 kb, .int .i64 nb, .string sb, .slice lb lnb lcb, .slice ll lnl lcl, .string s] 29)
  have hB0 := alloc_below w (.cells #[.int .i64 8, .int .i64 ka, .int .i64 na, .string sa, .slice la lna lca, .int .i64 kb, .int .i64 nb, .string sb, .slice lb lnb lcb, .slice ll lnl lcl, .string s] 29)
  have HA := Lib.hid (ha.below hB0)
  have HB := Lib.hid (hb.below hB0)
  have HL := Lib.hid (hl.below hB0)
  have HO := Lib.hid ho
  have HOB := Lib.hid hob
  have HT := Lib.hid (ht.below hB0 h5)
  have H5 := Lib.hid (Nat.le_trans h5 hB0.size)
  have HZ := Lib.hid hz
  have HB0 := Lib.hid hB0
  obtain ⟨R, hR⟩ : ∃ R, R = w.heap.size := ⟨_, rfl⟩
  obtain ⟨c0, c1, c2, c3, c4, c5, c6, c7, c8, c9, c10⟩ := op_cells hz
  clear ha hb hl ho hob ht h5 hz hB0
  go_enter Tryz.func5, Tryz.ntmps5
  go_wp2_with fail
  generalize (w.alloc (.cells #[.int .i64 8, .int .i64 ka, .int .i64 na, .string sa, .slice la lna lca, .int .i64 kb, .int .i64 nb, .string sb, .slice lb lnb lcb, .slice ll lnl lcl, .string s] 29)) = W at HA HB HL HT H5 HZ HB0 c0 c1 c2 c3 c4 c5 c6 c7 c8 c9 c10 ⊢
  rw [← hR] at HZ c0 c1 c2 c3 c4 c5 c6 c7 c8 c9 c10
  simp only [← hR]
  have HR := Lib.hid hR
  clear hR
  refine (join_any l _ _ HL.out).mono ?_
  intro e w1 hj
  obtain ⟨j1, j2, j3⟩ := hj
  cases hall : allMay l
  · have JC := j1 hall
    have RC : Hid (∀ {e : Ending} {w w' : World}, RJoinR l w e w' → e = .returned (.tuple #[zeroP, .int .i64 1]) ∧ Below w.heap.size w w') := Lib.hid (fun h => h.1 hall)
    clear j1 j2 j3 hall
    obtain ⟨rfl, hb1⟩ := JC
    have HZ1 := Lib.hid ((hb1.block R (Array.getElem?_eq_some_iff.1 HZ.out).1).trans HZ.out)
    have HB1 := Lib.hid (HB0.out.trans (hb1.mono HB0.out.size))
    have HL1 := Lib.hid (HL.out.below hb1)
    clear hb1 c0 c1 c2 c3 c4 c5 c6 c7 c8 c9 c10
    obtain ⟨c0, c1, c2, c3, c4, c5, c6, c7, c8, c9, c10⟩ := op_cells HZ1.out
    go_wp2_with fail
    refine (rjoin_any l _ _ HL1.out).mono ?_
    intro e w2 hr
    obtain ⟨rfl, hb2⟩ := RC.out hr
    have HB2 := Lib.hid (HB1.out.trans (hb2.mono HB1.out.size))
    clear hb2 hr c0 c1 c2 c3 c4 c5 c6 c7 c8 c9 c10
    simp only [zeroP]
    have hT := heap_alloc_new w2 (.cells #[.int .i64 0, .int .i64 0, .string ⟨#[]⟩, .slice none 0 0] 27)
    have hba := alloc_below w2 (.cells #[.int .i64 0, .int .i64 0, .string ⟨#[]⟩, .slice none 0 0] 27)
    have HB3 := Lib.hid (HB2.out.trans (hba.mono HB2.out.size))
    obtain ⟨⟨p0, fp0⟩, ⟨p1, fp1⟩, ⟨p2, fp2⟩, ⟨p3, fp3⟩⟩ := zero_cells hT
    clear hT hba
    go_wp2_with fail
    refine (fits_err _ 1 (by decide) _ _ (zero_arg _)).mono ?_
    rintro e w4 ⟨rfl, hb4⟩
    have HB4 := Lib.hid (HB3.out.trans (hb4.mono HB3.out.size))
    clear hb4 p0 p1 p2 p3 fp0 fp1 fp2 fp3
    go_wp2_with fail
    go_ret
    exact ⟨rfl, HB4.out⟩
  · cases hm : mayP (.mk 5 0 ⟨#[]⟩ l)
    · have JC := j2 hall hm
      have RC : Hid (∀ {e : Ending} {w w' : World}, RJoinR l w e w' → e = .returned (.tuple #[zeroP, .int .i64 2]) ∧ Below w.heap.size w w') := Lib.hid (fun h => h.2.1 hall hm)
      clear j1 j2 j3 hall hm
      obtain ⟨rfl, hb1⟩ := JC
      have HZ1 := Lib.hid ((hb1.block R (Array.getElem?_eq_some_iff.1 HZ.out).1).trans HZ.out)
      have HB1 := Lib.hid (HB0.out.trans (hb1.mono HB0.out.size))
      have HL1 := Lib.hid (HL.out.below hb1)
      clear hb1 c0 c1 c2 c3 c4 c5 c6 c7 c8 c9 c10
      obtain ⟨c0, c1, c2, c3, c4, c5, c6, c7, c8, c9, c10⟩ := op_cells HZ1.out
      go_wp2_with fail
      refine (rjoin_any l _ _ HL1.out).mono ?_
      intro e w2 hr
      obtain ⟨rfl, hb2⟩ := RC.out hr
      have HB2 := Lib.hid (HB1.out.trans (hb2.mono HB1.out.size))
      clear hb2 hr c0 c1 c2 c3 c4 c5 c6 c7 c8 c9 c10
      simp only [zeroP]
      have hT := heap_alloc_new w2 (.cells #[.int .i64 0, .int .i64 0, .string ⟨#[]⟩, .slice none 0 0] 27)
      have hba := alloc_below w2 (.cells #[.int .i64 0, .int .i64 0, .string ⟨#[]⟩, .slice none 0 0] 27)
      have HB3 := Lib.hid (HB2.out.trans (hba.mono HB2.out.size))
      obtain ⟨⟨p0, fp0⟩, ⟨p1, fp1⟩, ⟨p2, fp2⟩, ⟨p3, fp3⟩⟩ := zero_cells hT
      clear hT hba
      go_wp2_with fail
      refine (fits_err _ 2 (by decide) _ _ (zero_arg _)).mono ?_
      rintro e w4 ⟨rfl, hb4⟩
      have HB4 := Lib.hid (HB3.out.trans (hb4.mono HB3.out.size))
      clear hb4 p0 p1 p2 p3 fp0 fp1 fp2 fp3
      go_wp2_with fail
      go_ret
      exact ⟨rfl, HB4.out⟩
    · obtain ⟨v, vb, rfl, hrv, _, _, hb1⟩ := j3 hm
      obtain ⟨ty, tu, rfl⟩ := hrv.iface
      obtain ⟨m1, m2, m3, m4⟩ := may_plain (.mk 5 0 ⟨#[]⟩ l) 65536 0 (by omega) (by omega) hm
      have m5 := meas_bd (.mk 5 0 ⟨#[]⟩ l) 65536 0 hm
      have HM1 := Lib.hid m1
      have HM2 := Lib.hid (show nodesV (valOf (.mk 5 0 ⟨#[]⟩ l)) ≤ 70000 by omega)
      have HM3 := Lib.hid (show depV (valOf (.mk 5 0 ⟨#[]⟩ l)) ≤ 70 by omega)
      have HM4 := Lib.hid m4
      have HM := Lib.hid hm
      have HV1 := Lib.hid hrv
      have HZ1 := Lib.hid ((hb1.block R (Array.getElem?_eq_some_iff.1 HZ.out).1).trans HZ.out)
      have HB1 := Lib.hid (HB0.out.trans (hb1.mono HB0.out.size))
      have HL1 := Lib.hid (HL.out.below hb1)
      clear hb1 hrv m1 m2 m3 m4 m5 hm hall j1 j2 j3 c0 c1 c2 c3 c4 c5 c6 c7 c8 c9 c10
      obtain ⟨c0, c1, c2, c3, c4, c5, c6, c7, c8, c9, c10⟩ := op_cells HZ1.out
      go_wp2_with fail
      refine (rjoin_any l _ _ HL1.out).mono ?_
      intro e w2 hr
      obtain ⟨cs, cb, rfl, hh, hb2⟩ := hr.2.2 HM.out
      obtain ⟨k2, n2, s2, la2, ln2, lc2, rfl⟩ := hh.form
      have hT := heap_alloc_new w2 (.cells #[.int .i64 k2, .int .i64 n2, .string s2, .slice la2 ln2 lc2] 27)
      have hba := alloc_below w2 (.cells #[.int .i64 k2, .int .i64 n2, .string s2, .slice la2 ln2 lc2] 27)
      have hb3 := hb2.trans (hba.mono hb2.size)
      have HB3 := Lib.hid (HB1.out.trans (hb3.mono HB1.out.size))
      have HV3 := Lib.hid (RepV.keep (w' := w2.alloc (.cells #[.int .i64 k2, .int .i64 n2, .string s2, .slice la2 ln2 lc2] 27)) _ _ _ (fun g hg => hb3.block g (RepV.lt _ _ _ HV1.out g hg)) HV1.out)
      have HU3 := Lib.hid (hh.arg.below hba)
      obtain ⟨p0, fp0⟩ := heapcell hT 0
      obtain ⟨p1, fp1⟩ := heapcell hT 1
      obtain ⟨p2, fp2⟩ := heapcell hT 2
      obtain ⟨p3, fp3⟩ := heapcell hT 3
      clear hT hba hb3 hb2 hh hr c0 c1 c2 c3 c4 c5 c6 c7 c8 c9 c10
      go_wp2_with fail
      refine (fits_val (valOf (.mk 5 0 ⟨#[]⟩ l)) (.mk 5 0 ⟨#[]⟩ l) _ _ _ _ HV3.out HM1.out HU3.out HM2.out HM3.out HM4.out).mono ?_
      rintro e w4 ⟨rfl, hb4⟩
      have HB4 := Lib.hid (HB3.out.trans (hb4.mono HB3.out.size))
      clear hb4 p0 p1 p2 p3 fp0 fp1 fp2 fp3
      go_wp2_with fail
      go_ret
      exact ⟨rfl, HB4.out⟩
set_option maxHeartbeats 4000000 in
theorem plays_else (a b : PT) (l : List PT) (w : World) {ka na kb nb : Int} {sa sb s : ByteArray} {la lb ll : Option Addr} {lna lca lnb lcb lnl lcl : Nat} (ha : ArgP w a (.agg #[.int .i64 ka, .int .i64 na, .string sa, .slice la lna lca])) (hb : ArgP w b (.agg #[.int .i64 kb, .int .i64 nb, .string sb, .slice lb lnb lcb])) (hl : SlP w l (.slice ll lnl lcl)) (hs : s.size ≤ 140737488355328) (ho : okP a) (hob : okP b) (ht : Tabs w) (h5 : 5 ≤ w.heap.size) (k : Int) (hk1 : (k == 1) = false) (hk2 : (k == 2) = false) (hk3 : (k == 3) = false) (hk4 : (k == 4) = false) (hk5 : (k == 5) = false) (hk6 : (k == 6) = false) (hk7 : (k == 7) = false) (hk8 : (k == 8) = false) :
    Calls Tryz.prog 5 #[(.agg #[.int .i64 k, .int .i64 ka, .int .i64 na, .string sa, .slice la lna lca, .int .i64 kb, .int .i64 nb, .string sb, .slice lb lnb lcb, .slice ll lnl lcl, .string s])] w (RetB w (.bool true)) := by
  have hz := heap_alloc_new w (.cells #[.int .i64 k, .int .i64 ka, .int .i64 na, .string sa, .slice la lna lca, .int .i64 kb, .int .i64 nb, .string sb, .slice lb lnb lcb, .slice ll lnl lcl, .string s] 29)
  have hB0 := alloc_below w (.cells #[.int .i64 k, .int .i64 ka, .int .i64 na, .string sa, .slice la lna lca, .int .i64 kb, .int .i64 nb, .string sb, .slice lb lnb lcb, .slice ll lnl lcl, .string s] 29)
  have HA := Lib.hid (ha.below hB0)
  have HB := Lib.hid (hb.below hB0)
  have HL := Lib.hid (hl.below hB0)
  have HO := Lib.hid ho
  have HOB := Lib.hid hob
  have HT := Lib.hid (ht.below hB0 h5)
  have H5 := Lib.hid (Nat.le_trans h5 hB0.size)
  have HZ := Lib.hid hz
  have HB0 := Lib.hid hB0
  obtain ⟨R, hR⟩ : ∃ R, R = w.heap.size := ⟨_, rfl⟩
  obtain ⟨c0, c1, c2, c3, c4, c5, c6, c7, c8, c9, c10⟩ := op_cells hz
  clear ha hb hl ho hob ht h5 hz hB0
  go_enter Tryz.func5, Tryz.ntmps5
  go_wp2_with fail
  go_ret
  exact ⟨rfl, HB0.out⟩
/-- plays, whatever the call. -/
theorem plays_any (x : OT) (w : World) (v : Value) (hv : ArgO w x v) (hx : okO x) (ht : Tabs w) (h5 : 5 ≤ w.heap.size) : Calls Tryz.prog 5 #[v] w (RetB w (.bool true)) := by
  obtain ⟨k, a, b, l, s⟩ := x
  obtain ⟨ka, na, sa, la, lna, lca, kb, nb, sb, lb, lnb, lcb, ll, lnl, lcl, rfl, ha, hb, hl⟩ := hv
  obtain ⟨o1, o2, o3, o4⟩ := hx
  show Calls Tryz.prog 5 #[.agg #[.int .i64 k, .int .i64 ka, .int .i64 na, .string sa, .slice la lna lca, .int .i64 kb, .int .i64 nb, .string sb, .slice lb lnb lcb, .slice ll lnl lcl, .string s]] w _
  by_cases h1 : k = 1
  · subst h1; exact plays_may a b l w ha hb hl o4 o1 o2 ht h5
  by_cases h2 : k = 2
  · subst h2; exact plays_of a b l w ha hb hl o4 o1 o2 ht h5
  by_cases h3 : k = 3
  · subst h3; exact plays_same a b l w ha hb hl o4 o1 o2 ht h5
  by_cases h4 : k = 4
  · subst h4; exact plays_cmp a b l w ha hb hl o4 o1 o2 ht h5
  by_cases h5' : k = 5
  · subst h5'; exact plays_size a b l w ha hb hl o4 o1 o2 ht h5
  by_cases h6 : k = 6
  · subst h6; exact plays_text a b l w ha hb hl o4 o1 o2 ht h5
  by_cases h7 : k = 7
  · subst h7; exact plays_read a b l w ha hb hl o4 o1 o2 ht h5
  by_cases h8 : k = 8
  · subst h8; exact plays_join a b l w ha hb hl o4 o1 o2 ht h5
  exact plays_else a b l w ha hb hl o4 o1 o2 ht h5 k (by simpa using h1) (by simpa using h2) (by simpa using h3) (by simpa using h4) (by simpa using h5') (by simpa using h6) (by simpa using h7) (by simpa using h8)
/-- A call that lies in memory, as its cells. -/
theorem argO_of {w : World} {b o : Nat} {x : OT} (h : InO w b o x) : ∃ ka na sa la lna lca kb nb sb lb lnb lcb ll lnl lcl,
    ArgO w x (.agg #[.int .i64 x.kind, .int .i64 ka, .int .i64 na, .string sa, .slice la lna lca, .int .i64 kb, .int .i64 nb, .string sb, .slice lb lnb lcb, .slice ll lnl lcl, .string x.s]) ∧
    w.cell? ⟨b, o, none⟩ = some (.int .i64 x.kind) ∧ w.cell? ⟨b, o + 1, none⟩ = some (.int .i64 ka) ∧ w.cell? ⟨b, o + 2, none⟩ = some (.int .i64 na) ∧ w.cell? ⟨b, o + 3, none⟩ = some (.string sa) ∧ w.cell? ⟨b, o + 4, none⟩ = some (.slice la lna lca) ∧
    w.cell? ⟨b, o + 5, none⟩ = some (.int .i64 kb) ∧ w.cell? ⟨b, o + 6, none⟩ = some (.int .i64 nb) ∧ w.cell? ⟨b, o + 7, none⟩ = some (.string sb) ∧ w.cell? ⟨b, o + 8, none⟩ = some (.slice lb lnb lcb) ∧ w.cell? ⟨b, o + 9, none⟩ = some (.slice ll lnl lcl) ∧ w.cell? ⟨b, o + 10, none⟩ = some (.string x.s) := by
  obtain ⟨h0, h1, h2, ⟨v, h3, h4⟩, h5⟩ := h
  obtain ⟨k1, n1, s1, la1, lc1, l1, _, ⟨x0, x1, x2, x3⟩, a1⟩ := arg_of_in h1
  obtain ⟨k2, n2, s2, la2, lc2, l2, _, ⟨y0, y1, y2, y3⟩, a2⟩ := arg_of_in h2
  have h4' := h4
  obtain ⟨_, ll, lcl, rfl, _⟩ := h4'
  exact ⟨k1, n1, s1, la1, _, lc1, k2, n2, s2, la2, _, lc2, ll, _, lcl, ⟨_, _, _, _, _, _, _, _, _, _, _, _, _, _, _, rfl, a1, a2, h4⟩, h0, x0, x1, x2, x3, y0, y1, y2, y3, h3, h5⟩
set_option maxHeartbeats 4000000 in
theorem law_all (l : List OT) (w : World) (v : Value) (hv : SlO w l v) (ht : Tabs w) (h5 : 5 ≤ w.heap.size) : Calls Tryz.prog 3 #[v] w (RetB w (.bool true)) := by
  obtain ⟨hln, hok, la, lc, rfl, hla⟩ := hv
  have HT := Lib.hid ht
  have HA := Lib.hid hla
  have HOK := Lib.hid hok
  clear ht hla hok
  go_enter Tryz.func3, Tryz.ntmps3
  go_wp2_with fail
  refine (begun_any w HT.out h5).mono ?_
  rintro e w1 ⟨rfl, hb1⟩
  have HB1 := Lib.hid hb1
  clear hb1
  go_wp2_with fail
  go_loopw [3] (fun iv wr => ∃ (i : Nat), i ≤ l.length ∧ iv = .int .i64 i ∧ Hid (Below w.heap.size w wr)) (fun i _ => l.length - (intOf i).toNat)
  case atStart => exact ⟨0, by omega, rfl, HB1⟩
  case round =>
    obtain ⟨i, hi, rfl, hB⟩ := hrel
    by_cases hlt : i < l.length
    · by_cases h2000 : (i : Int) < 2000
      · obtain ⟨b', o', rfl, hin⟩ := HA.out (by intro h; subst h; simp at hlt)
        have hp := InOs.get l b' o' i hlt (InOs.below hB.out hin)
        rw [Nat.mul_comm] at hp
        obtain ⟨ka, na, sa, la, lna, lca, kb, nb, sb, lb, lnb, lcb, ll, lnl, lcl, hx, x0, x1, x2, x3, x4, x5, x6, x7, x8, x9, x10⟩ := argO_of hp
        have HX := Lib.hid hx
        have HOX := Lib.hid (HOK.out l[i] (List.getElem_mem hlt))
        have HTW := Lib.hid (HT.out.below hB.out h5)
        have H5 := Lib.hid (Nat.le_trans h5 hB.out.size)
        generalize l[i] = x at HX HOX x0 x1 x2 x3 x4 x5 x6 x7 x8 x9 x10
        clear hp hin hx
        go_wp2_with fail
        refine (plays_any x _ _ HX.out HOX.out HTW.out H5.out).mono ?_
        rintro e w2 ⟨rfl, hb2⟩
        have HB2 := Lib.hid (hB.out.trans (hb2.mono hB.out.size))
        clear hb2
        go_wp2_with fail
        go_roundw
        case rel => exact ⟨i + 1, by omega, by go_num, HB2⟩
        case measure => simp [intOf]; omega
      · have hge : ¬ (i : Int) < 2000 := h2000
        go_wp2_with fail
        go_ret
        exact ⟨rfl, hB.out⟩
    · obtain rfl : i = l.length := by omega
      go_wp2_with fail
      go_ret
      exact ⟨rfl, hB.out⟩
end

section
open Go.ChangeShapes Go.WideShapes Go.ChangeAt Go.RowKit
set_option maxRecDepth 100000
theorem lifted_worthAll (os : Os) (started : os.Started) (H : Type) (enc : TypeId × Value → H) :
    ReturnsInHanded {} Tryz.checked os 3 .any (fun w args => (Rows.worthAllSpec.pre enc Tryz.prog Tryz.f3 [] false w args ∧ laidMetH Tryz.prog laid5 w) ∧ sizedMet enc Tryz.prog Tryz.f3 (OpenSpec.ofChange Rows.worthAllSpec) false w args)
      (Rows.worthAllSpec.post enc Tryz.prog Tryz.f3 false true false false) := by
  refine returnsInHanded_of_change_and (C := Tryz.checked) (X := fun w _ => laidMetH Tryz.prog laid5 w) (fun _ _ _ hh h => h.of_heap hh) own started (by kernel_rfl) Tryz.func3
    (ChangeSpec.witness_shaped (enc := enc) (C := Tryz.checked) (os := os) (X := fun w _ => laidMetH Tryz.prog laid5 w) false (World.doorLaid Tryz.prog 400 os) #[.slice none 0 0] 8 rfl (World.shaped_of_RefB (by kernel_rfl) (by kernel_rfl)) (by kernel_rfl) (by kernel_rfl) (by kernel_rfl) (door_met os _)) ?_
  intro W base args ds gs before hval0 hW _ hsz hL _
  have hval : ∀ (j : Nat) t v, Tryz.f3.params[j]? = some t → args[j]? = some v → Value.okWide Tryz.prog W .any base t v := hval0
  have hW' := hW
  obtain ⟨p, q, hA0, hV, rfl, hfz, hnd⟩ := hW
  have hA : DataW.TrodAll enc Tryz.prog W 0 (fun _ => true) true Tryz.f3.params.toList args.toList ds p := hA0
  rw [Tryz.params3] at hA hval
  have hA1 := hA
  obtain ⟨v0, d0, rfl, rfl, h0⟩ := trodAll_one hA
  obtain ⟨rfl, rfl⟩ := trodVars_none hV
  have hz : (DataW.weightsEach Tryz.prog [22] [d0]).all (· ≤ reachBytes) = true := by
    have h' : (DataW.weightsEach Tryz.prog (Tryz.f3.params.toList ++ []) ([d0] ++ [])).all (· ≤ reachBytes) = true := hsz
    rw [Tryz.params3] at h'
    exact h'
  obtain ⟨t0, ha0⟩ := open_opsarg (hval 0 22 v0 rfl rfl) h0 (weights_at hz (j := 0) rfl rfl)
  obtain ⟨htab, h5⟩ := tabs_of_laid hL
  clear hval0
  refine (law_all t0 W v0 ha0 htab h5).mono fun e W' ⟨he, hg⟩ => ?_
  subst he
  simp only [List.append_nil] at hW'
  refine ⟨_, rfl, post_below (pv := []) hW' (fun _ _ _ => (trodAll_cons_mk (shut_bool Tryz.underlying4 _) trodAll_mk0)) ?_ (fun _ _ => rfl) (List.append_nil _).symm hg (ok_one (by kernel_rfl) rfl (okWide_bool_mk Tryz.underlying4 _))⟩
  intro sp hsp
  have hA2 : DataW.TrodAll enc Tryz.prog W' 0 sp true Tryz.f3.params.toList [v0] [d0] (p) :=
    DataW.TrodAll.respare kidsT fullT (by rw [Tryz.params3]; decide) (trodAll_below hg (by rw [Tryz.params3]; exact hA1) (fun x hx => hW'.lt x hx)) hsp
  exact hA2
theorem over_worthAll : Rows.worthAllRow.holds Tryz.pinned (OpenSpec.ofChange Rows.worthAllSpec) :=
  OpenClaim.holds_of_wide 3 Tryz.f3 rfl rfl rfl rfl rfl rfl rfl ⟨rfl, rfl, rfl, rfl, rfl⟩ rfl rfl rfl rfl rfl (by kernel_rfl) Tryz.func3 (by kernel_rfl)
    (of_decide_eq_true (by kernel_rfl)) (by unfold Func.isWrapper; first | (rw [if_pos (by decide +kernel)]; kernel_rfl) | (rw [if_neg (by decide +kernel)]; exact ⟨rfl, rfl⟩))
    (fun os started H enc _ => lifted_worthAll os started H enc)
theorem worthAll_holds : Rows.WorthAllCardSaid :=
  Claim7.holds_tied_plain_at .later [] [.data, .data, .data, .sentinel, .sentinel] true (true, "59bc277f10654de6b62d10e0582996923e5daa7df15a139e8b4869239fd75e31") true
    over_worthAll (fun _ h => by cases h) (by kernel_rfl) (fun _ h => by cases h) worthAll_row_tie rfl ⟨rfl, rfl⟩ (by kernel_rfl) rfl
    (fun f fn hf hfn => by
      obtain rfl : f = 3 := Option.some.inj ((show Tryz.prog.funcNamed "espalier/espalierlaw2.WorthAll" = some 3 by kernel_rfl).symm.trans hf) |>.symm
      obtain rfl : fn = Tryz.f3 := (Option.some.inj (Tryz.func3.symm.trans hfn)).symm
      exact ⟨by kernel_rfl, fun j t ht => by
        rw [Tryz.params3] at ht
        rcases j with _ | j
        · obtain rfl : t = 22 := by simpa using ht.symm
          exact (show Tryz.prog.wantsStandIn 22 = false by kernel_rfl)
        · simp at ht⟩)
    (by kernel_rfl)
#print axioms worthAll_holds
end
end Go.Proofs.YtkpnnhebfaggeaaGreatDoor
