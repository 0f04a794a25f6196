/-
  The card of WorthBack: a value of a plain tree has a text that is read as it, and is no other one's; what is read of a text has that text.
  Conditions: none.
-/
import Derived.Test.YtkpnnhebfaggeaaDoorKitQ
import Derived.Test.YtkpnnhebfaggeaaDoorKitA
import Derived.Test.YtkpnnhebfaggeaaDoorKitB
import Derived.Test.YtkpnnhebfaggeaaDoorKitS
import Derived.Test.YtkpnnhebfaggeaaDoorKitD
import Derived.Test.YtkpnnhebfaggeaaDoorCards
import Derived.Test.YtkpnnhebfaggeaaDoorTie
namespace Go.Proofs.YtkpnnhebfaggeaaDoor
section
open Go.RowKit
set_option maxRecDepth 100000
/-- What Text answers: the text, or none beside a number. -/
theorem textP_cases (p : PT) : (mayP p = true ∧ textP p = (enc (valOf p), 0) ∧ (enc (valOf p)).length ≤ 1048576) ∨ (∃ e : Int, (e = 1 ∨ e = 2) ∧ textP p = ([], e)) := by
  unfold textP
  by_cases h : mayP p = true
  · rw [if_pos h]
    by_cases h1 : 1048576 < (enc (valOf p)).length
    · rw [if_pos h1]; exact .inr ⟨2, .inr rfl, rfl⟩
    · rw [if_neg h1]; exact .inl ⟨h, rfl, by omega⟩
  · rw [if_neg h]; exact .inr ⟨1, .inl rfl, rfl⟩
theorem eq_same {A B : List UInt8} {b : Bool} (h : A = B ↔ b = true) : (!((A == B) == b)) = false := by
  cases b with
  | true => rw [h.2 rfl]; simp
  | false =>
    have : (A == B) = false := by
      cases hab : A == B with
      | false => rfl
      | true => exact absurd (h.1 (by simpa using hab)) (by simp)
    rw [this]; rfl
theorem two_boxes (w : World) (k0 n0 : Int) (s0 : ByteArray) (a0 : Option Addr) (l0 c0 : Nat) (k1 n1 : Int) (s1 : ByteArray) (a1 : Option Addr) (l1 c1 : Nat) :
    CellsP ((w.alloc (.cells #[.int .i64 k0, .int .i64 n0, .string s0, .slice a0 l0 c0] 24)).alloc (.cells #[.int .i64 k1, .int .i64 n1, .string s1, .slice a1 l1 c1] 24)) w.heap.size 0 k0 n0 s0 a0 l0 c0 ∧
    CellsP ((w.alloc (.cells #[.int .i64 k0, .int .i64 n0, .string s0, .slice a0 l0 c0] 24)).alloc (.cells #[.int .i64 k1, .int .i64 n1, .string s1, .slice a1 l1 c1] 24)) (w.heap.size + 1) 0 k1 n1 s1 a1 l1 c1 ∧
    Below w.heap.size w ((w.alloc (.cells #[.int .i64 k0, .int .i64 n0, .string s0, .slice a0 l0 c0] 24)).alloc (.cells #[.int .i64 k1, .int .i64 n1, .string s1, .slice a1 l1 c1] 24)) := by
  have h0 := cells_new w (.int .i64 k0) (.int .i64 n0) (.string s0) (.slice a0 l0 c0) 24
  have h1 := cells_new (w.alloc (.cells #[.int .i64 k0, .int .i64 n0, .string s0, .slice a0 l0 c0] 24)) (.int .i64 k1) (.int .i64 n1) (.string s1) (.slice a1 l1 c1) 24
  have e1 : (w.alloc (.cells #[.int .i64 k0, .int .i64 n0, .string s0, .slice a0 l0 c0] 24)).heap.size = w.heap.size + 1 := by simp
  rw [e1] at h1
  exact ⟨CellsP.below (alloc_below _ _) h0, h1, (alloc_below w _).alloc (by rw [e1]; omega) _⟩
set_option maxHeartbeats 8000000 in
theorem law_back (p q : PT) (s : ByteArray) (w : World) (v u : Value) (hv : ArgP w p v) (hu : ArgP w q u) (hop : okP p) (hoq : okP q) (hs : s.size ≤ 9223372036854775807) (ht : Tabs w) (h5 : 5 ≤ w.heap.size)
    (hbeg : ∀ W, Below w.heap.size w W → Calls Tryd.prog 8 #[] W (RetB W (.bool true))) : Calls Tryd.prog 3 #[v, u, .string s] w (RetB w (.bool true)) := by
  cases p with
  | mk k n x l =>
  cases q with
  | mk k' n' x' l' =>
    have g0 := hv
    have g1 := hu
    obtain ⟨_, _, la, lc, rfl, _⟩ := g0
    obtain ⟨_, _, la', lc', rfl, _⟩ := g1
    have HV := Lib.hid hv
    have HU := Lib.hid hu
    have HOP := Lib.hid hop
    have HOQ := Lib.hid hoq
    have HT := Lib.hid ht
    have HBG := Lib.hid hbeg
    have HTB := Lib.hid (two_boxes w k n x la l.length lc k' n' x' la' l'.length lc')
    clear hv hu hop hoq ht hbeg
    go_enter Tryd.func3, Tryd.ntmps3
    go_wp2_with fail
    generalize ((w.alloc (.cells #[.int .i64 k, .int .i64 n, .string x, .slice la l.length lc] 24)).alloc (.cells #[.int .i64 k', .int .i64 n', .string x', .slice la' l'.length lc'] 24)) = W0 at HTB ⊢
    refine (HBG.out W0 HTB.out.2.2).mono ?_
    rintro e W ⟨rfl, hb0⟩
    obtain ⟨N, hN⟩ : ∃ N, N = w.heap.size := ⟨_, rfl⟩
    obtain ⟨c0, c1, c2, c3⟩ := CellsP.below hb0 HTB.out.1
    obtain ⟨d0, d1, d2, d3⟩ := CellsP.below hb0 HTB.out.2.1
    have HB := Lib.hid (HTB.out.2.2.trans (hb0.mono HTB.out.2.2.size))
    simp only [← hN, Nat.zero_add] at c0 c1 c2 c3 d0 d1 d2 d3 ⊢
    clear hb0 HBG hN
    go_wp2_with fail
    refine (text_any _ W _ (HV.out.below HB.out) HOP.out (HT.out.below HB.out h5) (Nat.le_trans h5 HB.out.size)).mono ?_
    rintro e w1 ⟨rfl, hb1⟩
    have HB1 := Lib.hid (HB.out.trans (hb1.mono HB.out.size))
    have c0 := cell_stepA c0 hb1
    have c1 := cell_stepA c1 hb1
    have c2 := cell_stepA c2 hb1
    have c3 := cell_stepA c3 hb1
    have d0 := cell_stepA d0 hb1
    have d1 := cell_stepA d1 hb1
    have d2 := cell_stepA d2 hb1
    have d3 := cell_stepA d3 hb1
    clear hb1
    rcases textP_cases (.mk k n x l) with ⟨hm, htp, hlen⟩ | ⟨e1, he1, htp⟩
    · rw [htp]
      have HM := Lib.hid hm
      have HLN := Lib.hid hlen
      clear hm htp hlen
      go_wp2_with fail
      refine (text_any _ w1 _ (HU.out.below HB1.out) HOQ.out (HT.out.below HB1.out h5) (Nat.le_trans h5 HB1.out.size)).mono ?_
      rintro e w2 ⟨rfl, hb2⟩
      have HB2 := Lib.hid (HB1.out.trans (hb2.mono HB1.out.size))
      have c0 := cell_stepA c0 hb2
      have c1 := cell_stepA c1 hb2
      have c2 := cell_stepA c2 hb2
      have c3 := cell_stepA c3 hb2
      have d0 := cell_stepA d0 hb2
      have d1 := cell_stepA d1 hb2
      have d2 := cell_stepA d2 hb2
      have d3 := cell_stepA d3 hb2
      clear hb2
      have hsz : (⟨(enc (valOf (.mk k n x l))).toArray⟩ : ByteArray).size ≤ 1048576 := by
        have := HLN.out
        show (enc (valOf (.mk k n x l))).toArray.size ≤ _
        simpa using this
      have hread := read_short ⟨(enc (valOf (.mk k n x l))).toArray⟩ w2 hsz (HT.out.below HB2.out h5) (Nat.le_trans h5 HB2.out.size)
      rw [read_text HM.out HOP.out] at hread
      have HRD := Lib.hid hread
      clear hread hsz
      rcases textP_cases (.mk k' n' x' l') with ⟨hm2, htp, hlen⟩ | ⟨e2, he2, htp⟩
      · rw [htp]
        have HM2 := Lib.hid hm2
        have HSM := Lib.hid (same_text HM.out hm2 HOP.out HOQ.out)
        clear hm2 htp hlen
        go_wp2_with fail
        refine HRD.out.mono ?_
        intro e w3 hq
        obtain ⟨vr, br, rfl, hrv, _, _, hbr⟩ : ReadP w2 (.ok (valOf (.mk k n x l))) e w3 := hq
        have HB3 := Lib.hid (HB2.out.trans (hbr.mono HB2.out.size))
        have c0 := cell_stepA c0 hbr
        have c1 := cell_stepA c1 hbr
        have c2 := cell_stepA c2 hbr
        have c3 := cell_stepA c3 hbr
        have d0 := cell_stepA d0 hbr
        have d1 := cell_stepA d1 hbr
        have d2 := cell_stepA d2 hbr
        have d3 := cell_stepA d3 hbr
        obtain ⟨m1, m2, m3, m4⟩ := may_plain (.mk k n x l) 65536 0 (by omega) (by omega) HM.out
        have m5 := meas_bd (.mk k n x l) 65536 0 HM.out
        have HIS := Lib.hid (is_any (valOf (.mk k n x l)) (.mk k n x l) w3 vr _ br hrv m1 (HV.out.below HB3.out) (by omega) (by omega) m4)
        clear hrv hbr m1 m2 m3 m4 m5
        go_wp2_with fail
        refine HIS.out.mono ?_
        rintro e w4 ⟨rfl, hb4⟩
        have HB4 := Lib.hid (HB3.out.trans (hb4.mono HB3.out.size))
        have c0 := cell_stepA c0 hb4
        have c1 := cell_stepA c1 hb4
        have c2 := cell_stepA c2 hb4
        have c3 := cell_stepA c3 hb4
        have d0 := cell_stepA d0 hb4
        have d1 := cell_stepA d1 hb4
        have d2 := cell_stepA d2 hb4
        have d3 := cell_stepA d3 hb4
        clear hb4
        go_wp2_with fail
        refine (same_any _ _ w4 _ _ (HV.out.below HB4.out) (HU.out.below HB4.out)).mono ?_
        rintro e w5 ⟨rfl, hb5⟩
        have HB5 := Lib.hid (HB4.out.trans (hb5.mono HB4.out.size))
        clear hb5 c0 c1 c2 c3 d0 d1 d2 d3
        have hsm : (!((enc (valOf (.mk k n x l)) == enc (valOf (.mk k' n' x' l'))) == sameP (.mk k n x l) (.mk k' n' x' l'))) = false := eq_same HSM.out
        go_wp2_with fail
        have HTt := Lib.hid (HT.out.below HB5.out h5)
        have h5t : 5 ≤ w5.heap.size := Nat.le_trans h5 HB5.out.size
        by_cases hlong : 1048576 < s.size
        · refine (read_long s w5 hlong hs).mono ?_
          rintro e wr ⟨rfl, hbr⟩
          have hBr := HB5.out.trans (hbr.mono HB5.out.size)
          have q1 : (0 : Int) ≤ (s.size : Int) := by omega
          clear hlong hbr
          go_wp2_with fail
          go_ret
          exact ⟨rfl, hBr⟩
        · refine (read_short s w5 (by omega) HTt.out h5t).mono ?_
          intro e wr hq
          cases hr : readR s with
          | error pc =>
            obtain ⟨pos, c⟩ := pc
            rw [hr] at hq
            obtain ⟨rfl, hbr⟩ : ReadP w5 (.error (pos, c)) e wr := hq
            obtain ⟨hp1, hp2⟩ := read_err hr
            have hBr := HB5.out.trans (hbr.mono HB5.out.size)
            have q1 : (pos : Int) ≤ (s.size : Int) := by omega
            have q2 : (c != 0) = true := by simpa using hp2
            have q3 : (0 : Int) ≤ (pos : Int) := by omega
            clear hlong hbr hr hp1 hp2
            go_wp2_with fail
            go_ret
            exact ⟨rfl, hBr⟩
          | ok t =>
            rw [hr] at hq
            obtain ⟨vr, br, rfl, hrv, _, _, hbr⟩ : ReadP w5 (.ok t) e wr := hq
            obtain ⟨r1, r2, r3, r4⟩ := read_back hr
            have HBr := Lib.hid (HB5.out.trans (hbr.mono HB5.out.size))
            obtain ⟨m1, m2, m3⟩ := small_of t
            have hpc := plain_call t wr vr br hrv (by omega) (by omega) (m3 r2)
            have HPC := Lib.hid hpc
            have hlen : ¬ (1048576 < (enc t).length) := by rw [r1]; simpa using hlong
            have htx : textP (plainOf t) = (s.data.toList, 0) := by
              unfold textP
              rw [if_pos (may_of_plain r2 r3), val_plain, if_neg hlen, r1]
            have HTX := Lib.hid htx
            have HOK := Lib.hid (okP_plain t r4)
            have HTT := Lib.hid (HTt.out.below hbr h5t)
            have HS5 := Lib.hid (Nat.le_trans h5t hbr.size)
            clear hlong hlen hr r1 r2 r3 r4 m1 m2 m3 hpc htx hrv hbr
            go_wp2_with fail
            refine HPC.out.mono ?_
            rintro e wp ⟨cs, bs, rfl, hh, hge, hbp⟩
            obtain ⟨k9, n9, s9, la9, ln9, lc9, rfl⟩ := hh.form
            have HH := Lib.hid hh.arg
            have HBp := Lib.hid (HBr.out.trans (hbp.mono HBr.out.size))
            have HTp := Lib.hid (HTT.out.below hbp HS5.out)
            have HSp := Lib.hid (Nat.le_trans HS5.out hbp.size)
            clear hh hge hbp
            go_wp2_with fail
            refine (text_any (plainOf t) _ _ (HH.out.below (alloc_below _ _)) HOK.out (HTp.out.below (alloc_below _ _) HSp.out) (by have := HSp.out; simp; omega)).mono ?_
            rw [HTX.out]
            rintro e wx ⟨rfl, hbx⟩
            have HBx := Lib.hid ((HBp.out.alloc HBp.out.size _).trans (hbx.mono (by have := HBp.out.size; simp; omega)))
            clear hbx
            have hsb : (⟨s.data.toList.toArray⟩ : ByteArray) = s := by simp
            rw [show (.returned (.tuple #[.string ⟨(s.data.toList, (0 : Int)).1.toArray⟩, .int .i64 (s.data.toList, (0 : Int)).2]) : Ending) = .returned (.tuple #[.string s, .int .i64 0]) from by simp]
            clear hsb
            go_wp2_with fail
            go_ret
            exact ⟨rfl, HBx.out⟩
      · rw [htp]
        have f1 : (e2 == 0) = false := by rcases he2 with rfl | rfl <;> decide
        have f2 : (e2 != 0) = true := by rcases he2 with rfl | rfl <;> decide
        clear he2 htp
        go_wp2_with fail
        refine HRD.out.mono ?_
        intro e w3 hq
        obtain ⟨vr, br, rfl, hrv, _, _, hbr⟩ : ReadP w2 (.ok (valOf (.mk k n x l))) e w3 := hq
        have HB3 := Lib.hid (HB2.out.trans (hbr.mono HB2.out.size))
        have c0 := cell_stepA c0 hbr
        have c1 := cell_stepA c1 hbr
        have c2 := cell_stepA c2 hbr
        have c3 := cell_stepA c3 hbr
        have d0 := cell_stepA d0 hbr
        have d1 := cell_stepA d1 hbr
        have d2 := cell_stepA d2 hbr
        have d3 := cell_stepA d3 hbr
        obtain ⟨m1, m2, m3, m4⟩ := may_plain (.mk k n x l) 65536 0 (by omega) (by omega) HM.out
        have m5 := meas_bd (.mk k n x l) 65536 0 HM.out
        have HIS := Lib.hid (is_any (valOf (.mk k n x l)) (.mk k n x l) w3 vr _ br hrv m1 (HV.out.below HB3.out) (by omega) (by omega) m4)
        clear hrv hbr m1 m2 m3 m4 m5
        go_wp2_with fail
        refine HIS.out.mono ?_
        rintro e w4 ⟨rfl, hb4⟩
        have HB4 := Lib.hid (HB3.out.trans (hb4.mono HB3.out.size))
        have c0 := cell_stepA c0 hb4
        have c1 := cell_stepA c1 hb4
        have c2 := cell_stepA c2 hb4
        have c3 := cell_stepA c3 hb4
        have d0 := cell_stepA d0 hb4
        have d1 := cell_stepA d1 hb4
        have d2 := cell_stepA d2 hb4
        have d3 := cell_stepA d3 hb4
        clear hb4
        clear c0 c1 c2 c3 d0 d1 d2 d3
        go_wp2_with fail
        have HTt := Lib.hid (HT.out.below HB4.out h5)
        have h5t : 5 ≤ w4.heap.size := Nat.le_trans h5 HB4.out.size
        by_cases hlong : 1048576 < s.size
        · refine (read_long s w4 hlong hs).mono ?_
          rintro e wr ⟨rfl, hbr⟩
          have hBr := HB4.out.trans (hbr.mono HB4.out.size)
          have q1 : (0 : Int) ≤ (s.size : Int) := by omega
          clear hlong hbr
          go_wp2_with fail
          go_ret
          exact ⟨rfl, hBr⟩
        · refine (read_short s w4 (by omega) HTt.out h5t).mono ?_
          intro e wr hq
          cases hr : readR s with
          | error pc =>
            obtain ⟨pos, c⟩ := pc
            rw [hr] at hq
            obtain ⟨rfl, hbr⟩ : ReadP w4 (.error (pos, c)) e wr := hq
            obtain ⟨hp1, hp2⟩ := read_err hr
            have hBr := HB4.out.trans (hbr.mono HB4.out.size)
            have q1 : (pos : Int) ≤ (s.size : Int) := by omega
            have q2 : (c != 0) = true := by simpa using hp2
            have q3 : (0 : Int) ≤ (pos : Int) := by omega
            clear hlong hbr hr hp1 hp2
            go_wp2_with fail
            go_ret
            exact ⟨rfl, hBr⟩
          | ok t =>
            rw [hr] at hq
            obtain ⟨vr, br, rfl, hrv, _, _, hbr⟩ : ReadP w4 (.ok t) e wr := hq
            obtain ⟨r1, r2, r3, r4⟩ := read_back hr
            have HBr := Lib.hid (HB4.out.trans (hbr.mono HB4.out.size))
            obtain ⟨m1, m2, m3⟩ := small_of t
            have hpc := plain_call t wr vr br hrv (by omega) (by omega) (m3 r2)
            have HPC := Lib.hid hpc
            have hlen : ¬ (1048576 < (enc t).length) := by rw [r1]; simpa using hlong
            have htx : textP (plainOf t) = (s.data.toList, 0) := by
              unfold textP
              rw [if_pos (may_of_plain r2 r3), val_plain, if_neg hlen, r1]
            have HTX := Lib.hid htx
            have HOK := Lib.hid (okP_plain t r4)
            have HTT := Lib.hid (HTt.out.below hbr h5t)
            have HS5 := Lib.hid (Nat.le_trans h5t hbr.size)
            clear hlong hlen hr r1 r2 r3 r4 m1 m2 m3 hpc htx hrv hbr
            go_wp2_with fail
            refine HPC.out.mono ?_
            rintro e wp ⟨cs, bs, rfl, hh, hge, hbp⟩
            obtain ⟨k9, n9, s9, la9, ln9, lc9, rfl⟩ := hh.form
            have HH := Lib.hid hh.arg
            have HBp := Lib.hid (HBr.out.trans (hbp.mono HBr.out.size))
            have HTp := Lib.hid (HTT.out.below hbp HS5.out)
            have HSp := Lib.hid (Nat.le_trans HS5.out hbp.size)
            clear hh hge hbp
            go_wp2_with fail
            refine (text_any (plainOf t) _ _ (HH.out.below (alloc_below _ _)) HOK.out (HTp.out.below (alloc_below _ _) HSp.out) (by have := HSp.out; simp; omega)).mono ?_
            rw [HTX.out]
            rintro e wx ⟨rfl, hbx⟩
            have HBx := Lib.hid ((HBp.out.alloc HBp.out.size _).trans (hbx.mono (by have := HBp.out.size; simp; omega)))
            clear hbx
            have hsb : (⟨s.data.toList.toArray⟩ : ByteArray) = s := by simp
            rw [show (.returned (.tuple #[.string ⟨(s.data.toList, (0 : Int)).1.toArray⟩, .int .i64 (s.data.toList, (0 : Int)).2]) : Ending) = .returned (.tuple #[.string s, .int .i64 0]) from by simp]
            clear hsb
            go_wp2_with fail
            go_ret
            exact ⟨rfl, HBx.out⟩
    · rw [htp]
      have f1 : (e1 == 0) = false := by rcases he1 with rfl | rfl <;> decide
      have f2 : (e1 != 0) = true := by rcases he1 with rfl | rfl <;> decide
      clear he1 htp
      go_wp2_with fail
      refine (text_any _ w1 _ (HU.out.below HB1.out) HOQ.out (HT.out.below HB1.out h5) (Nat.le_trans h5 HB1.out.size)).mono ?_
      rintro e w2 ⟨rfl, hb2⟩
      have HB2 := Lib.hid (HB1.out.trans (hb2.mono HB1.out.size))
      clear hb2 c0 c1 c2 c3 d0 d1 d2 d3
      rcases textP_cases (.mk k' n' x' l') with ⟨hm2, htp, hlen⟩ | ⟨e2, he2, htp⟩
      · rw [htp]
        clear hm2 htp hlen
        go_wp2_with fail
        have HTt := Lib.hid (HT.out.below HB2.out h5)
        have h5t : 5 ≤ w2.heap.size := Nat.le_trans h5 HB2.out.size
        by_cases hlong : 1048576 < s.size
        · refine (read_long s w2 hlong hs).mono ?_
          rintro e wr ⟨rfl, hbr⟩
          have hBr := HB2.out.trans (hbr.mono HB2.out.size)
          have q1 : (0 : Int) ≤ (s.size : Int) := by omega
          clear hlong hbr
          go_wp2_with fail
          go_ret
          exact ⟨rfl, hBr⟩
        · refine (read_short s w2 (by omega) HTt.out h5t).mono ?_
          intro e wr hq
          cases hr : readR s with
          | error pc =>
            obtain ⟨pos, c⟩ := pc
            rw [hr] at hq
            obtain ⟨rfl, hbr⟩ : ReadP w2 (.error (pos, c)) e wr := hq
            obtain ⟨hp1, hp2⟩ := read_err hr
            have hBr := HB2.out.trans (hbr.mono HB2.out.size)
            have q1 : (pos : Int) ≤ (s.size : Int) := by omega
            have q2 : (c != 0) = true := by simpa using hp2
            have q3 : (0 : Int) ≤ (pos : Int) := by omega
            clear hlong hbr hr hp1 hp2
            go_wp2_with fail
            go_ret
            exact ⟨rfl, hBr⟩
          | ok t =>
            rw [hr] at hq
            obtain ⟨vr, br, rfl, hrv, _, _, hbr⟩ : ReadP w2 (.ok t) e wr := hq
            obtain ⟨r1, r2, r3, r4⟩ := read_back hr
            have HBr := Lib.hid (HB2.out.trans (hbr.mono HB2.out.size))
            obtain ⟨m1, m2, m3⟩ := small_of t
            have hpc := plain_call t wr vr br hrv (by omega) (by omega) (m3 r2)
            have HPC := Lib.hid hpc
            have hlen : ¬ (1048576 < (enc t).length) := by rw [r1]; simpa using hlong
            have htx : textP (plainOf t) = (s.data.toList, 0) := by
              unfold textP
              rw [if_pos (may_of_plain r2 r3), val_plain, if_neg hlen, r1]
            have HTX := Lib.hid htx
            have HOK := Lib.hid (okP_plain t r4)
            have HTT := Lib.hid (HTt.out.below hbr h5t)
            have HS5 := Lib.hid (Nat.le_trans h5t hbr.size)
            clear hlong hlen hr r1 r2 r3 r4 m1 m2 m3 hpc htx hrv hbr
            go_wp2_with fail
            refine HPC.out.mono ?_
            rintro e wp ⟨cs, bs, rfl, hh, hge, hbp⟩
            obtain ⟨k9, n9, s9, la9, ln9, lc9, rfl⟩ := hh.form
            have HH := Lib.hid hh.arg
            have HBp := Lib.hid (HBr.out.trans (hbp.mono HBr.out.size))
            have HTp := Lib.hid (HTT.out.below hbp HS5.out)
            have HSp := Lib.hid (Nat.le_trans HS5.out hbp.size)
            clear hh hge hbp
            go_wp2_with fail
            refine (text_any (plainOf t) _ _ (HH.out.below (alloc_below _ _)) HOK.out (HTp.out.below (alloc_below _ _) HSp.out) (by have := HSp.out; simp; omega)).mono ?_
            rw [HTX.out]
            rintro e wx ⟨rfl, hbx⟩
            have HBx := Lib.hid ((HBp.out.alloc HBp.out.size _).trans (hbx.mono (by have := HBp.out.size; simp; omega)))
            clear hbx
            have hsb : (⟨s.data.toList.toArray⟩ : ByteArray) = s := by simp
            rw [show (.returned (.tuple #[.string ⟨(s.data.toList, (0 : Int)).1.toArray⟩, .int .i64 (s.data.toList, (0 : Int)).2]) : Ending) = .returned (.tuple #[.string s, .int .i64 0]) from by simp]
            clear hsb
            go_wp2_with fail
            go_ret
            exact ⟨rfl, HBx.out⟩
      · rw [htp]
        have f3 : (e2 == 0) = false := by rcases he2 with rfl | rfl <;> decide
        have f4 : (e2 != 0) = true := by rcases he2 with rfl | rfl <;> decide
        clear he2 htp
        go_wp2_with fail
        have HTt := Lib.hid (HT.out.below HB2.out h5)
        have h5t : 5 ≤ w2.heap.size := Nat.le_trans h5 HB2.out.size
        by_cases hlong : 1048576 < s.size
        · refine (read_long s w2 hlong hs).mono ?_
          rintro e wr ⟨rfl, hbr⟩
          have hBr := HB2.out.trans (hbr.mono HB2.out.size)
          have q1 : (0 : Int) ≤ (s.size : Int) := by omega
          clear hlong hbr
          go_wp2_with fail
          go_ret
          exact ⟨rfl, hBr⟩
        · refine (read_short s w2 (by omega) HTt.out h5t).mono ?_
          intro e wr hq
          cases hr : readR s with
          | error pc =>
            obtain ⟨pos, c⟩ := pc
            rw [hr] at hq
            obtain ⟨rfl, hbr⟩ : ReadP w2 (.error (pos, c)) e wr := hq
            obtain ⟨hp1, hp2⟩ := read_err hr
            have hBr := HB2.out.trans (hbr.mono HB2.out.size)
            have q1 : (pos : Int) ≤ (s.size : Int) := by omega
            have q2 : (c != 0) = true := by simpa using hp2
            have q3 : (0 : Int) ≤ (pos : Int) := by omega
            clear hlong hbr hr hp1 hp2
            go_wp2_with fail
            go_ret
            exact ⟨rfl, hBr⟩
          | ok t =>
            rw [hr] at hq
            obtain ⟨vr, br, rfl, hrv, _, _, hbr⟩ : ReadP w2 (.ok t) e wr := hq
            obtain ⟨r1, r2, r3, r4⟩ := read_back hr
            have HBr := Lib.hid (HB2.out.trans (hbr.mono HB2.out.size))
            obtain ⟨m1, m2, m3⟩ := small_of t
            have hpc := plain_call t wr vr br hrv (by omega) (by omega) (m3 r2)
            have HPC := Lib.hid hpc
            have hlen : ¬ (1048576 < (enc t).length) := by rw [r1]; simpa using hlong
            have htx : textP (plainOf t) = (s.data.toList, 0) := by
              unfold textP
              rw [if_pos (may_of_plain r2 r3), val_plain, if_neg hlen, r1]
            have HTX := Lib.hid htx
            have HOK := Lib.hid (okP_plain t r4)
            have HTT := Lib.hid (HTt.out.below hbr h5t)
            have HS5 := Lib.hid (Nat.le_trans h5t hbr.size)
            clear hlong hlen hr r1 r2 r3 r4 m1 m2 m3 hpc htx hrv hbr
            go_wp2_with fail
            refine HPC.out.mono ?_
            rintro e wp ⟨cs, bs, rfl, hh, hge, hbp⟩
            obtain ⟨k9, n9, s9, la9, ln9, lc9, rfl⟩ := hh.form
            have HH := Lib.hid hh.arg
            have HBp := Lib.hid (HBr.out.trans (hbp.mono HBr.out.size))
            have HTp := Lib.hid (HTT.out.below hbp HS5.out)
            have HSp := Lib.hid (Nat.le_trans HS5.out hbp.size)
            clear hh hge hbp
            go_wp2_with fail
            refine (text_any (plainOf t) _ _ (HH.out.below (alloc_below _ _)) HOK.out (HTp.out.below (alloc_below _ _) HSp.out) (by have := HSp.out; simp; omega)).mono ?_
            rw [HTX.out]
            rintro e wx ⟨rfl, hbx⟩
            have HBx := Lib.hid ((HBp.out.alloc HBp.out.size _).trans (hbx.mono (by have := HBp.out.size; simp; omega)))
            clear hbx
            have hsb : (⟨s.data.toList.toArray⟩ : ByteArray) = s := by simp
            rw [show (.returned (.tuple #[.string ⟨(s.data.toList, (0 : Int)).1.toArray⟩, .int .i64 (s.data.toList, (0 : Int)).2]) : Ending) = .returned (.tuple #[.string s, .int .i64 0]) from by simp]
            clear hsb
            go_wp2_with fail
            go_ret
            exact ⟨rfl, HBx.out⟩
end

section
open Go.ChangeShapes Go.WideShapes Go.ChangeAt Go.RowKit
set_option maxRecDepth 100000
theorem lifted_worthBack (os : Os) (started : os.Started) (H : Type) (enc : TypeId × Value → H) :
    ReturnsInHanded {} Tryd.checked os 3 .any (fun w args => (Rows.worthBackSpec.pre enc Tryd.prog Tryd.f3 [] false w args ∧ laidMetH Tryd.prog laid5 w) ∧ sizedMet enc Tryd.prog Tryd.f3 (OpenSpec.ofChange Rows.worthBackSpec) false w args)
      (Rows.worthBackSpec.post enc Tryd.prog Tryd.f3 false true false false) := by
  refine returnsInHanded_of_change_and (C := Tryd.checked) (X := fun w _ => laidMetH Tryd.prog laid5 w) (fun _ _ _ hh h => h.of_heap hh) own started (by kernel_rfl) Tryd.func3
    (ChangeSpec.witness_shaped (enc := enc) (C := Tryd.checked) (os := os) (X := fun w _ => laidMetH Tryd.prog laid5 w) false (World.doorLaid Tryd.prog 400 os) #[.agg #[.int .i64 0, .int .i64 0, .string ⟨#[]⟩, .slice none 0 0], .agg #[.int .i64 0, .int .i64 0, .string ⟨#[]⟩, .slice none 0 0], .string ⟨#[]⟩] 8 rfl (World.shaped_of_RefB (by kernel_rfl) (by kernel_rfl)) (by kernel_rfl) (by kernel_rfl) (by kernel_rfl) (door_met os _)) ?_
  intro W base args ds gs before hval0 hW _ hsz hL _
  have hval : ∀ (j : Nat) t v, Tryd.f3.params[j]? = some t → args[j]? = some v → Value.okWide Tryd.prog W .any base t v := hval0
  have hW' := hW
  obtain ⟨p, q, hA0, hV, rfl, hfz, hnd⟩ := hW
  have hA : DataW.TrodAll enc Tryd.prog W 0 (fun _ => true) true Tryd.f3.params.toList args.toList ds p := hA0
  rw [Tryd.params3] at hA hval
  have hA1 := hA
  obtain ⟨v0, v1, v2, d0, d1, d2, p0, p1, p2, rfl, rfl, rfl, h0, h1, h2⟩ := trodAll_three hA
  obtain ⟨rfl, rfl⟩ := trodVars_none hV
  have hz : (DataW.weightsEach Tryd.prog [24, 24, 9] [d0, d1, d2]).all (· ≤ reachBytes) = true := by
    have h' : (DataW.weightsEach Tryd.prog (Tryd.f3.params.toList ++ []) ([d0, d1, d2] ++ [])).all (· ≤ reachBytes) = true := hsz
    rw [Tryd.params3] at h'
    exact h'
  obtain ⟨t0, ha0, ho0⟩ := open_arg (hval 0 24 v0 rfl rfl) h0 (weights_at hz (j := 0) rfl rfl)
  obtain ⟨t1, ha1, ho1⟩ := open_arg (hval 1 24 v1 rfl rfl) h1 (weights_at hz (j := 1) rfl rfl)
  obtain ⟨t2, ha2, ho2⟩ := open_strarg (hval 2 9 v2 rfl rfl) h2 (weights_at hz (j := 2) rfl rfl)
  obtain ⟨htab, h5⟩ := tabs_of_laid hL
  subst ha2
  clear hval0
  refine (law_back t0 t1 t2 W v0 v1 ha0 ha1 ho0 ho1 ho2 htab h5 (fun w hb => (begun_any w (htab.below hb h5) (Nat.le_trans h5 hb.size)))).mono fun e W' ⟨he, hg⟩ => ?_
  subst he
  simp only [List.append_nil] at hW'
  refine ⟨_, rfl, post_below (pv := []) hW' (fun _ _ _ => (trodAll_cons_mk (shut_bool Tryd.underlying4 _) trodAll_mk0)) ?_ (fun _ _ => rfl) (List.append_nil _).symm hg (ok_one (by kernel_rfl) rfl (okWide_bool_mk Tryd.underlying4 _))⟩
  intro sp hsp
  have hA2 : DataW.TrodAll enc Tryd.prog W' 0 sp true Tryd.f3.params.toList [v0, v1, .string t2] [d0, d1, d2] (p0 ++ p1 ++ p2) :=
    DataW.TrodAll.respare kidsT fullT (by rw [Tryd.params3]; decide) (trodAll_below hg (by rw [Tryd.params3]; exact hA1) (fun x hx => hW'.lt x hx)) hsp
  exact hA2
theorem over_worthBack : Rows.worthBackRow.holds Tryd.pinned (OpenSpec.ofChange Rows.worthBackSpec) :=
  OpenClaim.holds_of_wide 3 Tryd.f3 rfl rfl rfl rfl rfl rfl rfl ⟨rfl, rfl, rfl, rfl, rfl⟩ rfl rfl rfl rfl rfl (by kernel_rfl) Tryd.func3 (by kernel_rfl)
    (of_decide_eq_true (by kernel_rfl)) (by unfold Func.isWrapper; first | (rw [if_pos (by decide +kernel)]; kernel_rfl) | (rw [if_neg (by decide +kernel)]; exact ⟨rfl, rfl⟩))
    (fun os started H enc _ => lifted_worthBack os started H enc)
theorem worthBack_holds : Rows.WorthBackCardSaid :=
  Claim7.holds_tied_plain_at .later [] [.data, .data, .data, .sentinel, .sentinel] true (true, "87952721e25b2d47a731b52e3a2efbd7654279aba4613bb3f954613407b7271a") true
    over_worthBack (fun _ h => by cases h) (by kernel_rfl) (fun _ h => by cases h) worthBack_row_tie rfl ⟨rfl, rfl⟩ (by kernel_rfl) rfl
    (fun f fn hf hfn => by
      obtain rfl : f = 3 := Option.some.inj ((show Tryd.prog.funcNamed "espalier/espalierlaw2.WorthBack" = some 3 by kernel_rfl).symm.trans hf) |>.symm
      obtain rfl : fn = Tryd.f3 := (Option.some.inj (Tryd.func3.symm.trans hfn)).symm
      exact ⟨by kernel_rfl, fun j t ht => by
        rw [Tryd.params3] at ht
        rcases j with _ | _ | _ | j
        · obtain rfl : t = 24 := by simpa using ht.symm
          exact (show Tryd.prog.wantsStandIn 24 = false by kernel_rfl)
        · obtain rfl : t = 24 := by simpa using ht.symm
          exact (show Tryd.prog.wantsStandIn 24 = false by kernel_rfl)
        · obtain rfl : t = 9 := by simpa using ht.symm
          exact (show Tryd.prog.wantsStandIn 9 = false by kernel_rfl)
        · simp at ht⟩)
    (by kernel_rfl)
#print axioms worthBack_holds
end
end Go.Proofs.YtkpnnhebfaggeaaDoor
