/-
  The reader of the program worth, and the document's reader: walks by the kit.
  Conditions: none.
-/
import Derived.Test.YtkpnnhebfaggeaaGreatDoorKitA
import Derived.Lib.BufferRead
import Derived.Deep.RegionHeld3
namespace Go.Proofs.YtkpnnhebfaggeaaGreatDoor
set_option linter.unusedVariables false
set_option linter.unusedSimpArgs false
section
open Go.RowKit
set_option maxRecDepth 100000
theorem plainsOf_get : ∀ (l : List VT) (i : Nat) (h : i < l.length) (h' : i < (plainsOf l).length), (plainsOf l)[i] = plainOf l[i]
  | t :: r, 0, h, h' => rfl
  | t :: r, i + 1, h, h' => by simpa [plainsOf] using plainsOf_get r i (by simpa using h) (by simpa [plainsOf] using h')
theorem encR_app : ∀ l l' : List VT, encR (l ++ l') = encR l ++ encR l'
  | [], l' => rfl
  | x :: r, l' => by simp only [List.cons_append, encR, encR_app r l', List.append_assoc]
theorem encL_take_le (l : List VT) (i : Nat) : (encL (l.take i)).length ≤ (encL l).length := by
  cases l with
  | nil => simp
  | cons x r =>
    cases i with
    | zero => simp [encL]
    | succ i =>
      simp only [List.take_succ_cons, encL, List.length_append]
      have h := congrArg (fun z => (encR z).length) (List.take_append_drop i r)
      simp only [encR_app, List.length_append] at h
      omega
theorem St.join {w0 w w1 w' : World} {L L' : List UInt8} {sv sv' : Value} (h : St w0 w L sv w1) (k : St w0 w1 L' sv' w') : St w0 w L' sv' w' := ⟨k.row, k.below, h.keep.trans k.keep⟩
set_option maxHeartbeats 8000000 in
theorem wr_list (l : List VT) (ih : ∀ t ∈ l, WrFor t) : WrFor (.list l) := by
  intro w0 w v sv L hv hb hr hl ho
  obtain ⟨_, hln, la, lc, rfl, hla⟩ := hv
  rw [plainsOf_len] at hln ⊢
  obtain ⟨i0, hi, hz0, hz1, hz2⟩ := info_parts infoB
  have HZ1 := Lib.hid hz1; clear hz1
  have HZ2 := Lib.hid hz2; clear hz2
  have HZ0 := Lib.hid hz0; clear hz0
  have HI0 := Lib.hid hi; clear hi
  have HA := Lib.hid hla
  have HI := Lib.hid ih
  have HO : Hid (okVs l) := Lib.hid ho
  have HL : Hid (L.length + (2 + (encL l).length) ≤ 10000000) := Lib.hid (by have : L.length + ([91] ++ encL l ++ [93]).length ≤ 10000000 := hl; simp at this; omega)
  have HS := Lib.hid ((St.start hr hb).alloc (.cells #[.int .i64 5, .int .i64 0, .string ⟨#[]⟩, .slice la l.length lc] 27))
  have HX := Lib.hid (heap_alloc_new w (.cells #[.int .i64 5, .int .i64 0, .string ⟨#[]⟩, .slice la l.length lc] 27))
  clear hl ho hr hb hla ih
  go_enter Tryz.func41, Tryz.ntmps41
  go_upto_region 22 with fail
  generalize (w.alloc (.cells #[.int .i64 5, .int .i64 0, .string ⟨#[]⟩, .slice la l.length lc] 27)) = W at HS HX ⊢
  obtain ⟨R, hR⟩ : ∃ R, R = w.heap.size := ⟨_, rfl⟩
  simp only [← hR] at HX ⊢
  clear hR
  go_wp2_with (at_builtin; refine wpList_append_own_at _ rfl _ _ 63 rfl w0.heap.size 5 i0 (.int .u8 0) 1 1 Tryz.underlying63 HI0.out HZ0.out HZ1.out HZ2.out rfl (by decide) _ _ _ rfl (HS.out.alloc _).row ⟨W.heap.size, 0, none⟩ 1 1 [.int .u8 91] rfl rfl (row_new _ _ _) ?c2 ?c3 ?c4 ?c5 ?_)
  case c2 => intro u hu; simp at hu; first | (subst hu; rfl) | (rcases hu with rfl | rfl <;> rfl) | (rcases hu with rfl | rfl | rfl | rfl <;> rfl)
  case c3 => have := HL.out; unfold maxLen; simp at this ⊢; omega
  case c4 => have := HL.out; simp at this ⊢; omega
  case c5 => exact (HS.out.alloc _).below.size
  intro sv2 w2 hown hgrow _ _
  have HS2 := Lib.hid ((HS.out.alloc _).grown (N := [91]) hgrow (by rw [Lib.byteCells_append]; rfl) (by simp) hown)
  have HK2 : Hid (KT W w2) := Lib.hid (grown_keep (HS.out.alloc _) hgrow ((KT.refl _).alloc _))
  clear hown hgrow
  have HX2 := Lib.hid (HK2.out.box HX.out)
  clear HX HK2
  go_wp2_with fail
  go_loopw [0, 7] (fun bv iv wr => ∃ (i : Nat) (M : List UInt8), i ≤ l.length ∧ iv = .int .i64 i ∧ Hid (St w0 w (L ++ M) bv wr) ∧ Hid (wr.heap[R]? = some (.cells #[.int .i64 5, .int .i64 0, .string ⟨#[]⟩, .slice la l.length lc] 27 (0, 0))) ∧
      Hid (M.length ≤ 1 + (encL (l.take i)).length) ∧ Hid (L.length + M.length ≤ 1048576 → M = [91] ++ encL (l.take i)))
    (fun _ i _ => l.length - (intOf i).toNat)
  case atStart => exact ⟨0, [91], by omega, rfl, HS2, HX2, Lib.hid (by simp), Lib.hid (fun _ => by simp [encL])⟩
  case round =>
    obtain ⟨i, M, hi, rfl, hw, hx, hml, hme⟩ := hrel
    obtain ⟨Q, hQ⟩ : ∃ Q, Q = L ++ M := ⟨_, rfl⟩
    rw [← hQ] at hw
    have HQ := Lib.hid hQ
    clear hQ
    obtain ⟨bx, bc, rfl⟩ := own_slice hw.out.row
    have x3 := (heapcell hx.out 3).1
    have x3' : wr.cell? ⟨R, 3, none⟩ = some (.slice la l.length lc) := x3
    clear x3
    have hql : Q.length = L.length + M.length := by rw [HQ.out]; simp
    have HQL := Lib.hid hql
    clear hql
    by_cases hlt : i < l.length
    · by_cases hroom : Q.length ≤ 1048576
      · have hM := hme.out (by have := HQL.out; omega)
        have HM := Lib.hid hM
        obtain ⟨b', o', rfl, hin⟩ := HA.out (by intro h; have := congrArg List.length h; rw [plainsOf_len] at this; simp at this; subst this; simp at hlt)
        have hp := InPs.get (plainsOf l) b' o' i (by rw [plainsOf_len]; exact hlt) hin
        rw [plainsOf_get l i hlt, Nat.mul_comm] at hp
        obtain ⟨k1, n1, s1, la1, lc1, l1, e1, hc1, ha1⟩ := arg_of_in hp
        have HA1 := Lib.hid ha1
        have HC1 := Lib.hid hc1
        have hstep := encL_take_succ l i hlt
        have HST := Lib.hid hstep
        have htk := encL_take_le l (i + 1)
        have hend : ∀ S, (S = if 0 < i then [44, 32] else []) → (Q ++ S).length + (enc l[i]).length ≤ 9999999 ∧ (Q ++ S).length ≤ 9999999 := fun S e => by
          have h1 := HL.out
          have h2 := congrArg List.length hM
          rw [hstep, ← e] at htk
          have h3 := HQL.out
          simp at htk h2 ⊢
          omega
        have hnext : ∀ (S : List UInt8) (N : List UInt8) (bz : Value) (wy wz : World), (S = if 0 < i then [44, 32] else []) → St w0 w (Q ++ S) bz wy → WrQ w0 (enc l[i]) (Q ++ S) wy (.returned bz) wz → True := fun _ _ _ _ _ _ _ _ => trivial
        have HEND := Lib.hid hend
        have HIH := Lib.hid (HI.out l[i] (List.getElem_mem hlt))
        have HOI := Lib.hid (okVs_get l i hlt HO.out)
        clear hnext hend htk hstep hM hin hp e1 ha1 hc1
        by_cases h0 : i = 0
        · subst h0
          have hcc := CellsP.below hw.out.below HC1.out
          rw [Nat.zero_mul, Nat.add_zero] at hcc
          obtain ⟨y0, y1, y2, y3⟩ := hcc
          have HE0 := Lib.hid (HEND.out [] (by simp))
          have HRW : Hid (wr.ownsRow w0.heap.size 5 1 (.slice bx Q.length bc) (Q ++ []).length (Lib.byteCells (Q ++ []))) := Lib.hid (by simpa using hw.out.row)
          go_wp2_with fail
          refine (HIH.out w0 wr _ _ (Q ++ []) HA1.out hw.out.below HRW.out (by have := HE0.out; omega) HOI.out).mono ?_
          rintro e w3 ⟨sv3, N, rfl, hst, hn1, hn2⟩
          have HXF := Lib.hid (hst.keep.box hx.out)
          have HF : Hid (St w0 w (L ++ (M ++ N)) sv3 w3) := Lib.hid (by have := hw.out.join hst; rw [HQ.out] at this; simpa using this)
          have HML : Hid ((M ++ N).length ≤ 1 + (encL (l.take (0 + 1))).length) := Lib.hid (by rw [HST.out]; have := hml.out; simp at this ⊢; omega)
          have HME : Hid (L.length + (M ++ N).length ≤ 1048576 → M ++ N = [91] ++ encL (l.take (0 + 1))) := Lib.hid (fun h => by
            have h1 := hn2 (by have := HQL.out; simp at h ⊢; omega)
            rw [HST.out, h1, HM.out]; simp)
          clear y0 y1 y2 y3 hst hn1 hn2
          go_wp2_with fail
          go_roundw
          case rel => exact ⟨0 + 1, _, by omega, by go_num, HF, HXF, HML, HME⟩
          case measure => simp [intOf]; omega
        · have HE0 := Lib.hid (HEND.out [44, 32] (by rw [if_pos (by omega)]))
          have hi0 : 0 < i := by omega
          go_wp2_with (at_builtin; refine Lib.wpList_append_own_string _ rfl _ _ 63 9 rfl w0.heap.size 5 i0 Tryz.underlying63 Tryz.underlying9 HI0.out HZ0.out HZ1.out HZ2.out _ _ _ rfl hw.out.row ⟨#[44, 32]⟩ rfl ?c3 ?c4 ?c5 ?_)
          case c3 => have := HE0.out.2; unfold maxLen; simp [ByteArray.size] at this ⊢; omega
          case c4 => have := HE0.out.2; simp [ByteArray.size] at this ⊢; omega
          case c5 => exact hw.out.below.size
          intro sv4 w4 hown hgrow _
          have HS4 := Lib.hid (hw.out.grown (N := [44, 32]) hgrow (by rw [Lib.byteCells_append]; rfl) (by simp [ByteArray.size]) hown)
          have HK4 : Hid (KT wr w4) := Lib.hid (grown_keep hw.out hgrow (KT.refl _))
          clear hown hgrow
          have hx4 := HK4.out.box hx.out
          have HX4 := Lib.hid hx4
          have x4 := (heapcell hx4 3).1
          have x4' : w4.cell? ⟨R, 3, none⟩ = some (.slice (some ⟨b', o', none⟩) l.length lc) := x4
          obtain ⟨y0, y1, y2, y3⟩ := CellsP.below HS4.out.below HC1.out
          clear x3' x4 hx4
          go_wp2_with fail
          refine (HIH.out w0 w4 _ _ (Q ++ [44, 32]) HA1.out HS4.out.below HS4.out.row (by have := HE0.out; omega) HOI.out).mono ?_
          rintro e w3 ⟨sv3, N, rfl, hst, hn1, hn2⟩
          have HXF := Lib.hid (hst.keep.box HX4.out)
          have HF : Hid (St w0 w (L ++ (M ++ ([44, 32] ++ N))) sv3 w3) := Lib.hid (by have := HS4.out.join hst; rw [HQ.out] at this; simpa [List.append_assoc] using this)
          have HML : Hid ((M ++ ([44, 32] ++ N)).length ≤ 1 + (encL (l.take (i + 1))).length) := Lib.hid (by rw [HST.out, if_pos hi0]; have := hml.out; simp at this ⊢; omega)
          have HME : Hid (L.length + (M ++ ([44, 32] ++ N)).length ≤ 1048576 → M ++ ([44, 32] ++ N) = [91] ++ encL (l.take (i + 1))) := Lib.hid (fun h => by
            have h1 := hn2 (by have := HQL.out; simp at h ⊢; omega)
            rw [HST.out, if_pos hi0, h1, HM.out]; simp)
          clear y0 y1 y2 y3 hst hn1 hn2 x4'
          go_wp2_with fail
          go_roundw
          case rel => exact ⟨i + 1, _, by omega, by go_num, HF, HXF, HML, HME⟩
          case measure => simp [intOf]; omega
      · have hroom2 : 1048576 < Q.length := by omega
        clear hroom
        have HB : Hid (Q.length + 1 ≤ 10000000) := Lib.hid (by have h1 := HQL.out; have h2 := hml.out; have h3 := encL_take_le l i; have := HL.out; omega)
        go_wp2_with (at_builtin; refine wpList_append_own_at _ rfl _ _ 63 rfl w0.heap.size 5 i0 (.int .u8 0) 1 1 Tryz.underlying63 HI0.out HZ0.out HZ1.out HZ2.out rfl (by decide) _ _ _ rfl (hw.out.alloc _).row ⟨wr.heap.size, 0, none⟩ 1 1 [.int .u8 93] rfl rfl (row_new _ _ _) ?c2 ?c3 ?c4 ?c5 ?_)
        case c2 => intro u hu; simp at hu; first | (subst hu; rfl) | (rcases hu with rfl | rfl <;> rfl) | (rcases hu with rfl | rfl | rfl | rfl <;> rfl)
        case c3 => have := HB.out; unfold maxLen; simp at this ⊢; omega
        case c4 => have := HB.out; simp at this ⊢; omega
        case c5 => exact (hw.out.alloc _).below.size
        intro sv3 w3 hown hgrow _ _
        have HS3 := Lib.hid ((hw.out.alloc _).grown (N := [93]) hgrow (by rw [Lib.byteCells_append]; rfl) (by simp) hown)
        have HK3 : Hid (KT wr w3) := Lib.hid (grown_keep (hw.out.alloc _) hgrow ((KT.refl _).alloc _))
        clear hown hgrow
        go_wp2_with fail
        go_ret
        refine ⟨_, M ++ [93], rfl, by have := HS3.out; rw [HQ.out] at this; simpa [List.append_assoc] using this, ?_, fun h => ?_⟩
        · have h2 := hml.out; have h3 := encL_take_le l i; simp [enc] at *; omega
        · exact absurd h (by have := HQL.out; simp; omega)
    · obtain rfl : i = l.length := by omega
      have HB : Hid (Q.length + 1 ≤ 10000000) := Lib.hid (by have h1 := HQL.out; have h2 := hml.out; have h3 := encL_take_le l l.length; have := HL.out; omega)
      go_wp2_with (at_builtin; refine wpList_append_own_at _ rfl _ _ 63 rfl w0.heap.size 5 i0 (.int .u8 0) 1 1 Tryz.underlying63 HI0.out HZ0.out HZ1.out HZ2.out rfl (by decide) _ _ _ rfl (hw.out.alloc _).row ⟨wr.heap.size, 0, none⟩ 1 1 [.int .u8 93] rfl rfl (row_new _ _ _) ?c2 ?c3 ?c4 ?c5 ?_)
      case c2 => intro u hu; simp at hu; first | (subst hu; rfl) | (rcases hu with rfl | rfl <;> rfl) | (rcases hu with rfl | rfl | rfl | rfl <;> rfl)
      case c3 => have := HB.out; unfold maxLen; simp at this ⊢; omega
      case c4 => have := HB.out; simp at this ⊢; omega
      case c5 => exact (hw.out.alloc _).below.size
      intro sv3 w3 hown hgrow _ _
      have HS3 := Lib.hid ((hw.out.alloc _).grown (N := [93]) hgrow (by rw [Lib.byteCells_append]; rfl) (by simp) hown)
      have HK3 : Hid (KT wr w3) := Lib.hid (grown_keep (hw.out.alloc _) hgrow ((KT.refl _).alloc _))
      clear hown hgrow
      go_wp2_with fail
      go_ret
      refine ⟨_, M ++ [93], rfl, by have := HS3.out; rw [HQ.out] at this; simpa [List.append_assoc] using this, ?_, fun h => ?_⟩
      · have h2 := hml.out; have h3 := encL_take_le l l.length; simp [enc] at *; omega
      · have h1 := hme.out (by simp at h; omega); rw [h1, List.take_length]; simp [enc]
mutual
theorem wr_any : ∀ t : VT, WrFor t
  | .unit => wr_unit
  | .truth true => wr_yes
  | .truth false => wr_no
  | .int n => wr_int n
  | .text s => wr_text s
  | .list l => wr_list l (wr_anys l)
theorem wr_anys : ∀ l : List VT, ∀ t ∈ l, WrFor t
  | [], t, h => by simp at h
  | q :: r, t, h => by
    rcases List.mem_cons.1 h with h | h
    · rw [h]; exact wr_any q
    · exact wr_anys r t h
end
end

section
open Go.RowKit
set_option maxRecDepth 100000
def wordR (s : List UInt8) : List UInt8 → Nat → Except Nat Nat
  | [], a => .ok a
  | b :: r, a => if s[a]? = some b then wordR s r (a + 1) else .error a
def WordP (r : Nat) (s : ByteArray) (z : Nat) (w : World) : Except Nat Nat → Ending → World → Prop
  | .ok a', e, w' => e = .returned (.tuple #[]) ∧ RD r s a' z w' ∧ KB r w w'
  | .error p, e, w' => Wrong p 5 e ∧ KB r w w'
def WordQ (r : Nat) (s : ByteArray) (z : Nat) (w : World) (x : Except Nat Nat) (e : Ending) (w' : World) : Prop := WordP r s z w x e w'
theorem u8_ne {a b : UInt8} (h : a ≠ b) : ((a.toNat : Int) == (b.toNat : Int)) = false := by
  simp only [beq_eq_false_iff_ne, ne_eq]
  intro e
  exact h (UInt8.toNat_inj.1 (by omega))
theorem u8_ne' {a b : UInt8} (h : a ≠ b) : ((a.toNat : Int) != (b.toNat : Int)) = true := by
  rw [bne, u8_ne h]; rfl
set_option maxHeartbeats 2000000 in
theorem word_any (r : Nat) (s : ByteArray) (a z : Nat) (wt : ByteArray) (w : World) (h : RD r s a z w) (ha : a ≤ s.size) (hs : s.size ≤ 1048576) (hw : wt.size ≤ 1048576) :
    Calls Tryz.prog 50 #[.pointer (some ⟨r, 0, none⟩), .string wt] w (WordQ r s z w (wordR s.data.toList wt.data.toList a)) := by
  have H := Lib.hid h
  clear h
  go_enter Tryz.func50, Tryz.ntmps50
  go_wp2_with fail
  go_loopw [9] (fun iv wr => ∃ (i : Nat), i ≤ wt.size ∧ a + i ≤ s.size ∧ iv = .int .i64 i ∧ Hid (RD r s (a + i) z wr) ∧ Hid (KB r w wr) ∧ Hid (wordR s.data.toList (wt.data.toList.drop i) (a + i) = wordR s.data.toList wt.data.toList a))
    (fun i _ => wt.size - (intOf i).toNat)
  case atStart => exact ⟨0, by omega, by omega, rfl, H, Lib.hid (KB.refl _ _), Lib.hid (by simp)⟩
  case round =>
    obtain ⟨i, hi, hai, rfl, hrd, hkb, heq⟩ := hrel
    by_cases hlt : i < wt.size
    · have hstep : wordR s.data.toList (wt.data.toList.drop i) (a + i) = if s.data.toList[a + i]? = some wt[i] then wordR s.data.toList (wt.data.toList.drop (i + 1)) (a + i + 1) else .error (a + i) := by
        rw [List.drop_eq_getElem_cons (by simpa using hlt), wordR]; rfl
      rw [show wordR s.data.toList (wt.data.toList.drop i) (a + i) = _ from hstep] at heq
      clear hstep
      by_cases hend : a + i = s.size
      · have hnone : s.data.toList[a + i]? = none := List.getElem?_eq_none (by simp; omega)
        rw [hnone, if_neg (by simp)] at heq
        have hrd' : Hid (RD r s s.size z wr) := by rw [← hend]; exact hrd
        clear hnone
        have HE := Lib.hid hend
        clear hend
        go_wp2_with fail
        refine (next_end r s z wr hrd'.out hs).mono ?_
        rintro e w1 ⟨rfl, m, rfl⟩
        obtain ⟨c0, c1, c2, f1, f2⟩ := (hrd.out.drewN m).cells
        go_wp2_with fail
        refine (wrong_any r _ _ _).mono ?_
        rintro e w1 ⟨he, rfl⟩
        cases he
        go_wp2_with fail
        refine ⟨rfl, ?_⟩
        show WordP _ _ _ _ _ _ _
        rw [← heq.out]
        exact ⟨rfl, hkb.out.trans (KB.drewN m)⟩
      · have hlt2 : a + i < s.size := by omega
        have hsome : s.data.toList[a + i]? = some s[a + i] := by rw [List.getElem?_eq_getElem (by simpa using hlt2)]; rfl
        rw [hsome] at heq
        clear hsome
        go_wp2_with fail
        refine (next_byte r s (a + i) z wr hrd.out hs hlt2).mono ?_
        rintro e w1 ⟨rfl, m, rfl⟩
        obtain ⟨c0, c1, c2, f1, f2⟩ := (hrd.out.drewN m).cells
        by_cases hb : s[a + i] = wt[i]
        · rw [if_pos (by rw [hb])] at heq
          have hbb : ((s[a + i].toNat : Int) != (wt[i].toNat : Int)) = false := by rw [hb]; simp
          have HB := Lib.hid hb
          clear hb
          go_wp2_with fail
          go_roundw
          case rel => exact ⟨i + 1, by omega, by omega, by go_num, Lib.hid ((hrd.out.drewN m).to1 (a + i + 1)), Lib.hid ((hkb.out.trans (KB.drewN m)).trans (KB.set 1 _)), heq⟩
          case measure => simp [intOf]; omega
        · rw [if_neg (by simpa using hb)] at heq
          have hbb := u8_ne' hb
          have HB := Lib.hid hb
          clear hb
          go_wp2_with fail
          refine (wrong_any r _ _ _).mono ?_
          rintro e w1 ⟨he, rfl⟩
          cases he
          go_wp2_with fail
          refine ⟨rfl, ?_⟩
          show WordP _ _ _ _ _ _ _
          rw [← heq.out]
          exact ⟨rfl, hkb.out.trans (KB.drewN m)⟩
    · obtain rfl : i = wt.size := by omega
      have hd : wt.data.toList.drop wt.size = [] := List.drop_eq_nil_iff.2 (by simp)
      rw [hd, wordR] at heq
      clear hd
      go_wp2_with fail
      go_end0
      show WordP _ _ _ _ _ _ _
      rw [← heq.out]
      exact ⟨rfl, hrd.out, hkb.out⟩
end

section
open Go.RowKit
set_option maxRecDepth 100000
def hexI (c : UInt8) : Int := Lib.indexByte hexL c
def escT (s : List UInt8) : Nat → Int → Nat → Except Nat (UInt8 × Nat)
  | 0, n, a => .ok (UInt8.ofNat n.toNat, a)
  | k + 1, n, a =>
    match s[a + 1]? with
    | none => .error (a + 1)
    | some c =>
      if hexI c < 0 ∨ (k = 1 ∧ 2 ≤ hexI c ∧ hexI c ≤ 6) then .error (a + 1)
      else if k = 0 ∧ 32 ≤ n * 16 + hexI c ∧ n * 16 + hexI c ≤ 126 then .error (a + 1)
      else escT s k (n * 16 + hexI c) (a + 1)
theorem escT_none {s : List UInt8} {k a : Nat} {n : Int} (h : s[a + 1]? = none) : escT s (k + 1) n a = .error (a + 1) := by rw [escT, h]
theorem escT_some {s : List UInt8} {k a : Nat} {n : Int} {c : UInt8} (h : s[a + 1]? = some c) : escT s (k + 1) n a =
      if hexI c < 0 ∨ (k = 1 ∧ 2 ≤ hexI c ∧ hexI c ≤ 6) then .error (a + 1)
      else if k = 0 ∧ 32 ≤ n * 16 + hexI c ∧ n * 16 + hexI c ≤ 126 then .error (a + 1)
      else escT s k (n * 16 + hexI c) (a + 1) := by rw [escT, h]
def escR (s : List UInt8) (a : Nat) : Except Nat (UInt8 × Nat) :=
  match s[a]? with
  | none => .error a
  | some c => if c.toNat = 34 ∨ c.toNat = 92 then .ok (c, a) else if c.toNat ≠ 120 then .error a else escT s 2 0 a
theorem or_zero : ∀ k : Fin 16, bits BinOp.or IntKind.i64 0 (k.val : Int) = (k.val : Int) := by decide
theorem or_hex : ∀ n k : Fin 16, bits BinOp.or IntKind.i64 ((n.val : Int) * 16) (k.val : Int) = (n.val : Int) * 16 + (k.val : Int) := by decide
theorem or0 {k : Int} (h0 : 0 ≤ k) (h1 : k ≤ 15) : bits BinOp.or IntKind.i64 0 k = k := by
  have := or_zero ⟨k.toNat, by omega⟩
  simpa [Int.toNat_of_nonneg h0] using this
theorem orH {n k : Int} (a0 : 0 ≤ n) (a1 : n ≤ 15) (h0 : 0 ≤ k) (h1 : k ≤ 15) : bits BinOp.or IntKind.i64 (n * 16) k = n * 16 + k := by
  have := or_hex ⟨n.toNat, by omega⟩ ⟨k.toNat, by omega⟩
  simpa [Int.toNat_of_nonneg h0, Int.toNat_of_nonneg a0] using this
def EscP (r : Nat) (s : ByteArray) (z : Nat) (w : World) : Except Nat (UInt8 × Nat) → Ending → World → Prop
  | .ok (c, a'), e, w' => e = .returned (.int .u8 c.toNat) ∧ RD r s a' z w' ∧ KB r w w'
  | .error p, e, w' => Wrong p 5 e ∧ KB r w w'
def EscQ (r : Nat) (s : ByteArray) (z : Nat) (w : World) (x : Except Nat (UInt8 × Nat)) (e : Ending) (w' : World) : Prop := EscP r s z w x e w'
theorem idx_bd : ∀ (l : List UInt8) (c : UInt8), -1 ≤ Lib.indexByte l c ∧ Lib.indexByte l c < l.length
  | [], c => by simp [Lib.indexByte]
  | b :: l, c => by
    have := idx_bd l c
    simp only [Lib.indexByte, List.length_cons]
    split
    · omega
    · split <;> omega
theorem hexI_bd (c : UInt8) : -1 ≤ hexI c ∧ hexI c ≤ 15 := by
  have := idx_bd hexL c
  have e : hexL.length = 16 := rfl
  unfold hexI; omega
theorem hexI_any (c : UInt8) (w : World) : Calls Tryz.prog 77 #[.string ⟨#[48, 49, 50, 51, 52, 53, 54, 55, 56, 57, 97, 98, 99, 100, 101, 102]⟩, .int .u8 (c.toNat : Int)] w fun e w' => e = .returned (.int .i64 (hexI c)) ∧ w = w' := by
  refine (Tryz.strings_IndexByte _ _ w).mono ?_
  rintro e w' ⟨rfl, rfl⟩
  refine ⟨?_, rfl⟩
  have e1 : (c.toNat : Int).toNat.toUInt8 = c := by simp
  rw [e1]
  rfl
theorem hexI_zero (w : World) : Calls Tryz.prog 77 #[.string ⟨#[48, 49, 50, 51, 52, 53, 54, 55, 56, 57, 97, 98, 99, 100, 101, 102]⟩, .int .u8 0] w fun e w' => e = .returned (.int .i64 (-1)) ∧ w = w' := by
  refine (Tryz.strings_IndexByte _ _ w).mono ?_
  rintro e w' ⟨rfl, rfl⟩
  exact ⟨rfl, rfl⟩
set_option maxHeartbeats 2000000 in
theorem esc_any (r : Nat) (s : ByteArray) (a z : Nat) (w : World) (h : RD r s a z w) (ha : a ≤ s.size) (hs : s.size ≤ 1048576) :
    Calls Tryz.prog 68 #[.pointer (some ⟨r, 0, none⟩)] w (EscQ r s z w (escR s.data.toList a)) := by
  have H := Lib.hid h
  clear h
  by_cases hend : a = s.size
  · have hnone : s.data.toList[a]? = none := List.getElem?_eq_none (by simp; omega)
    have he : escR s.data.toList a = .error a := by unfold escR; rw [hnone]
    have HE := Lib.hid he
    have H' : Hid (RD r s s.size z w) := by rw [← hend]; exact H
    clear he hnone
    have HEN := Lib.hid hend
    clear hend
    obtain ⟨c0, c1, c2, f1, f2⟩ := H.out.cells
    go_enter Tryz.func68, Tryz.ntmps68
    go_wp2_with fail
    refine (next_end r s z _ H'.out hs).mono ?_
    rintro e w1 ⟨rfl, m, rfl⟩
    go_wp2_with fail
    refine (wrong_any r _ _ _).mono ?_
    rintro e w1 ⟨he, rfl⟩
    cases he
    go_wp2_with fail
    refine ⟨rfl, ?_⟩
    show EscP _ _ _ _ _ _ _
    rw [HE.out]
    exact ⟨rfl, KB.drewN m⟩
  · have hlt : a < s.size := by omega
    have hsome : s.data.toList[a]? = some s[a] := by rw [List.getElem?_eq_getElem (by simpa using hlt)]; rfl
    by_cases h34 : s[a].toNat = 34
    · have b1 : ((s[a].toNat : Int) == 34) = true := by rw [h34]; rfl
      have he : escR s.data.toList a = .ok (s[a], a) := by
        unfold escR
        rw [hsome]
        simp only
        rw [if_pos (.inl h34)]
      have HE := Lib.hid he
      have H34 := Lib.hid h34
      clear he h34 hsome
      go_enter Tryz.func68, Tryz.ntmps68
      go_wp2_with fail
      refine (next_byte r s a z _ H.out hs hlt).mono ?_
      rintro e w1 ⟨rfl, m, rfl⟩
      go_wp2_with fail
      go_ret
      show EscP _ _ _ _ _ _ _
      rw [HE.out]
      exact ⟨by first | rfl | exact ret_int (by rw [H34.out]; rfl), H.out.drewN m, KB.drewN m⟩
    · by_cases h92 : s[a].toNat = 92
      · have b1 : ((s[a].toNat : Int) == 34) = false := by rw [h92]; rfl
        have b2 : ((s[a].toNat : Int) == 92) = true := by rw [h92]; rfl
        have he : escR s.data.toList a = .ok (s[a], a) := by
          unfold escR
          rw [hsome]
          simp only
          rw [if_pos (.inr h92)]
        have HE := Lib.hid he
        have H34 := Lib.hid h92
        clear he h34 h92 hsome
        go_enter Tryz.func68, Tryz.ntmps68
        go_wp2_with fail
        refine (next_byte r s a z _ H.out hs hlt).mono ?_
        rintro e w1 ⟨rfl, m, rfl⟩
        go_wp2_with fail
        go_ret
        show EscP _ _ _ _ _ _ _
        rw [HE.out]
        exact ⟨by first | rfl | exact ret_int (by rw [H34.out]; rfl), H.out.drewN m, KB.drewN m⟩
      · by_cases hx : s[a].toNat = 120
        · have b1 : ((s[a].toNat : Int) == 34) = false := by rw [hx]; rfl
          have b2 : ((s[a].toNat : Int) == 92) = false := by rw [hx]; rfl
          have b3 : ((s[a].toNat : Int) != 120) = false := by rw [hx]; rfl
          go_enter Tryz.func68, Tryz.ntmps68
          go_wp2_with fail
          refine (next_byte r s a z _ H.out hs hlt).mono ?_
          rintro e w1 ⟨rfl, m, rfl⟩
          go_wp2_with fail
          have he : escR s.data.toList a = escT s.data.toList 2 0 a := by
            unfold escR
            rw [hsome]
            simp only
            rw [if_neg (by omega), if_neg (by omega)]
          have HE := Lib.hid he
          clear he hsome h34 h92 hx
          go_loopw [5, 34] (fun nv iv wr => ∃ (i : Nat) (n : Int), i ≤ 2 ∧ iv = .int .i64 i ∧ nv = .int .i64 n ∧ 0 ≤ n ∧ n ≤ 255 ∧ (i = 0 → n = 0) ∧ (i = 1 → n ≤ 15) ∧ a + i < s.size ∧ Hid (RD r s (a + i) z wr) ∧ Hid (KB r w wr) ∧ Hid (escT s.data.toList (2 - i) n (a + i) = escR s.data.toList a))
            (fun _ i _ => 2 - (intOf i).toNat)
          case atStart => exact ⟨0, 0, by omega, rfl, rfl, by omega, by omega, fun _ => rfl, fun _ => by omega, by omega, Lib.hid (H.out.drewN m), Lib.hid (KB.drewN m), Lib.hid HE.out.symm⟩
          case round =>
            obtain ⟨i, n, hi, rfl, rfl, hn0, hn1, hi0, hi1, hai, hrd, hkb, heq⟩ := hrel
            obtain ⟨c0, c1, c2, f1, f2⟩ := hrd.out.cells
            have hi' : i = 0 ∨ i = 1 ∨ i = 2 := by omega
            rcases hi' with rfl | rfl | rfl
            · obtain rfl := hi0 rfl
              clear hi0 hi1
              have HRD1 := Lib.hid (hrd.out.to1 (a + 0 + 1))
              have HKB1 := Lib.hid (hkb.out.trans (KB.set 1 (.int .i64 (a + 0 + 1 : Nat))))
              by_cases hend1 : a + 0 + 1 = s.size
              · have hs1 : s.data.toList[a + 0 + 1]? = none := List.getElem?_eq_none (by simp; omega)
                have hq : escT s.data.toList (2 - 0) 0 (a + 0) = .error (a + 0 + 1) := by
                  exact escT_none (k := 1) hs1
                have HQ := Lib.hid hq
                have HE1 : Hid (RD r s s.size z (wr.setCell ⟨r, 1, none⟩ (.int .i64 (a + 0 + 1 : Nat)))) := by rw [← hend1]; exact HRD1
                clear hq hs1
                have HEN := Lib.hid hend1
                clear hend1
                go_wp2_with fail
                refine (next_end r s z _ HE1.out hs).mono ?_
                rintro e w1 ⟨rfl, m1, rfl⟩
                have HRD2 := Lib.hid (HRD1.out.drewN m1)
                have HKB2 := Lib.hid (HKB1.out.trans (KB.drewN m1))
                obtain ⟨d0, d1, d2, g1, g2⟩ := HRD2.out.cells
                go_wp2_with fail
                refine (hexI_zero _).mono ?_
                rintro e w1 ⟨rfl, rfl⟩
                go_wp2_with fail
                refine (wrong_any r _ _ _).mono ?_
                rintro e w1 ⟨he, rfl⟩
                cases he
                go_wp2_with fail
                refine ⟨rfl, ?_⟩
                show EscP _ _ _ _ _ _ _
                rw [← heq.out, HQ.out]
                exact ⟨rfl, HKB2.out⟩
              · have hlt1 : a + 0 + 1 < s.size := by omega
                have hs1 : s.data.toList[a + 0 + 1]? = some s[a + 0 + 1] := by rw [List.getElem?_eq_getElem (by simpa using hlt1)]; rfl
                have hq : escT s.data.toList (2 - 0) 0 (a + 0) = if hexI s[a + 0 + 1] < 0 ∨ (2 ≤ hexI s[a + 0 + 1] ∧ hexI s[a + 0 + 1] ≤ 6) then .error (a + 0 + 1) else escT s.data.toList 1 (hexI s[a + 0 + 1]) (a + 0 + 1) := by
                  rw [show escT s.data.toList (2 - 0) 0 (a + 0) = _ from escT_some (k := 1) hs1]
                  simp
                have hbd := hexI_bd s[a + 0 + 1]
                have HQ := Lib.hid hq
                clear hq hs1
                go_wp2_with fail
                refine (next_byte r s (a + 0 + 1) z _ HRD1.out hs hlt1).mono ?_
                rintro e w1 ⟨rfl, m1, rfl⟩
                have HRD2 := Lib.hid (HRD1.out.drewN m1)
                have HKB2 := Lib.hid (HKB1.out.trans (KB.drewN m1))
                obtain ⟨d0, d1, d2, g1, g2⟩ := HRD2.out.cells
                go_wp2_with fail
                refine (hexI_any _ _).mono ?_
                rintro e w1 ⟨rfl, rfl⟩
                generalize hexI s[a + 0 + 1] = k at hbd HQ ⊢
                obtain ⟨k0, k15⟩ := hbd
                by_cases hk : k < 0
                · go_wp2_with fail
                  refine (wrong_any r _ _ _).mono ?_
                  rintro e w1 ⟨he, rfl⟩
                  cases he
                  go_wp2_with fail
                  refine ⟨rfl, ?_⟩
                  show EscP _ _ _ _ _ _ _
                  rw [← heq.out, HQ.out, if_pos (.inl hk)]
                  exact ⟨rfl, HKB2.out⟩
                · by_cases hk2 : 2 ≤ k ∧ k ≤ 6
                  · have hk3 := Lib.hid hk2
                    obtain ⟨ka, kb⟩ := hk2
                    go_wp2_with fail
                    refine (wrong_any r _ _ _).mono ?_
                    rintro e w1 ⟨he, rfl⟩
                    cases he
                    go_wp2_with fail
                    refine ⟨rfl, ?_⟩
                    show EscP _ _ _ _ _ _ _
                    rw [← heq.out, HQ.out, if_pos (.inr hk3.out)]
                    exact ⟨rfl, HKB2.out⟩
                  · have hk3 : k < 2 ∨ 6 < k := by omega
                    have HQ' : Hid (escT s.data.toList 1 k (a + 0 + 1) = escR s.data.toList a) := by
                      show _ = _
                      rw [← heq.out, HQ.out, if_neg (by omega)]
                    have hor : bits BinOp.or IntKind.i64 0 k = k := or0 (by omega) k15
                    clear hk2
                    rcases hk3 with hk3 | hk3
                    · go_wp2_with fail
                      go_roundw
                      case rel => exact ⟨1, k, by omega, rfl, by go_num, by omega, by omega, by omega, by omega, by omega, HRD2, HKB2, HQ'⟩
                      case measure => simp [intOf]
                    · go_wp2_with fail
                      go_roundw
                      case rel => exact ⟨1, k, by omega, rfl, by go_num, by omega, by omega, by omega, by omega, by omega, HRD2, HKB2, HQ'⟩
                      case measure => simp [intOf]
            · have hn15 := hi1 rfl
              clear hi0 hi1
              have HRD1 := Lib.hid (hrd.out.to1 (a + 1 + 1))
              have HKB1 := Lib.hid (hkb.out.trans (KB.set 1 (.int .i64 (a + 1 + 1 : Nat))))
              by_cases hend1 : a + 1 + 1 = s.size
              · have hs1 : s.data.toList[a + 1 + 1]? = none := List.getElem?_eq_none (by simp; omega)
                have hq : escT s.data.toList (2 - 1) n (a + 1) = .error (a + 1 + 1) := by
                  exact escT_none (k := 0) hs1
                have HQ := Lib.hid hq
                have HE1 : Hid (RD r s s.size z (wr.setCell ⟨r, 1, none⟩ (.int .i64 (a + 1 + 1 : Nat)))) := by rw [← hend1]; exact HRD1
                clear hq hs1
                have HEN := Lib.hid hend1
                clear hend1
                go_wp2_with fail
                refine (next_end r s z _ HE1.out hs).mono ?_
                rintro e w1 ⟨rfl, m1, rfl⟩
                have HRD2 := Lib.hid (HRD1.out.drewN m1)
                have HKB2 := Lib.hid (HKB1.out.trans (KB.drewN m1))
                obtain ⟨d0, d1, d2, g1, g2⟩ := HRD2.out.cells
                go_wp2_with fail
                refine (hexI_zero _).mono ?_
                rintro e w1 ⟨rfl, rfl⟩
                go_wp2_with fail
                refine (wrong_any r _ _ _).mono ?_
                rintro e w1 ⟨he, rfl⟩
                cases he
                go_wp2_with fail
                refine ⟨rfl, ?_⟩
                show EscP _ _ _ _ _ _ _
                rw [← heq.out, HQ.out]
                exact ⟨rfl, HKB2.out⟩
              · have hlt1 : a + 1 + 1 < s.size := by omega
                have hs1 : s.data.toList[a + 1 + 1]? = some s[a + 1 + 1] := by rw [List.getElem?_eq_getElem (by simpa using hlt1)]; rfl
                have hq : escT s.data.toList (2 - 1) n (a + 1) = if hexI s[a + 1 + 1] < 0 then .error (a + 1 + 1) else if 32 ≤ n * 16 + hexI s[a + 1 + 1] ∧ n * 16 + hexI s[a + 1 + 1] ≤ 126 then .error (a + 1 + 1) else escT s.data.toList 0 (n * 16 + hexI s[a + 1 + 1]) (a + 1 + 1) := by
                  rw [show escT s.data.toList (2 - 1) n (a + 1) = _ from escT_some (k := 0) hs1]
                  simp
                have hbd := hexI_bd s[a + 1 + 1]
                have HQ := Lib.hid hq
                clear hq hs1
                go_wp2_with fail
                refine (next_byte r s (a + 1 + 1) z _ HRD1.out hs hlt1).mono ?_
                rintro e w1 ⟨rfl, m1, rfl⟩
                have HRD2 := Lib.hid (HRD1.out.drewN m1)
                have HKB2 := Lib.hid (HKB1.out.trans (KB.drewN m1))
                obtain ⟨d0, d1, d2, g1, g2⟩ := HRD2.out.cells
                go_wp2_with fail
                refine (hexI_any _ _).mono ?_
                rintro e w1 ⟨rfl, rfl⟩
                generalize hexI s[a + 1 + 1] = k at hbd HQ ⊢
                obtain ⟨k0, k15⟩ := hbd
                by_cases hk : k < 0
                · go_wp2_with fail
                  refine (wrong_any r _ _ _).mono ?_
                  rintro e w1 ⟨he, rfl⟩
                  cases he
                  go_wp2_with fail
                  refine ⟨rfl, ?_⟩
                  show EscP _ _ _ _ _ _ _
                  rw [← heq.out, HQ.out, if_pos hk]
                  exact ⟨rfl, HKB2.out⟩
                · have hor : bits BinOp.or IntKind.i64 (n * 16) k = n * 16 + k := orH hn0 hn15 (by omega) k15
                  by_cases hk2 : 32 ≤ n * 16 + k ∧ n * 16 + k ≤ 126
                  · have hk3 := Lib.hid hk2
                    have hkn := Lib.hid hk
                    obtain ⟨ka, kb⟩ := hk2
                    go_wp2_with fail
                    refine (wrong_any r _ _ _).mono ?_
                    rintro e w1 ⟨he, rfl⟩
                    cases he
                    go_wp2_with fail
                    refine ⟨rfl, ?_⟩
                    show EscP _ _ _ _ _ _ _
                    rw [← heq.out, HQ.out, if_neg (Int.not_lt.2 hkn.out), if_pos hk3.out]
                    exact ⟨rfl, HKB2.out⟩
                  · have hkn := Lib.hid hk
                    have hk2n := Lib.hid hk2
                    have hk3 : n * 16 + k < 32 ∨ 126 < n * 16 + k := by omega
                    have HQ' : Hid (escT s.data.toList 0 (n * 16 + k) (a + 1 + 1) = escR s.data.toList a) := by
                      show _ = _
                      rw [← heq.out, HQ.out, if_neg hk, if_neg hk2]
                    clear hk2
                    rcases hk3 with hk3 | hk3
                    · go_wp2_with fail
                      go_roundw
                      case rel => exact ⟨2, n * 16 + k, by omega, rfl, by go_num, by omega, by omega, by omega, by omega, by omega, HRD2, HKB2, HQ'⟩
                      case measure => simp [intOf]
                    · go_wp2_with fail
                      go_roundw
                      case rel => exact ⟨2, n * 16 + k, by omega, rfl, by go_num, by omega, by omega, by omega, by omega, by omega, HRD2, HKB2, HQ'⟩
                      case measure => simp [intOf]
            · clear hi0 hi1
              have hlast : escT s.data.toList (2 - 2) n (a + 2) = .ok (UInt8.ofNat n.toNat, a + 2) := rfl
              have HQ := Lib.hid hlast
              clear hlast
              go_wp2_with fail
              go_ret
              show EscP _ _ _ _ _ _ _
              rw [← heq.out, HQ.out]
              refine ⟨ret_int ?_, hrd.out, hkb.out⟩
              have : n.toNat < 256 := by omega
              simp only [UInt8.toNat_ofNat']
              omega
        · have b1 : ((s[a].toNat : Int) == 34) = false := by simp only [beq_eq_false_iff_ne, ne_eq]; omega
          have b2 : ((s[a].toNat : Int) == 92) = false := by simp only [beq_eq_false_iff_ne, ne_eq]; omega
          have b3 : ((s[a].toNat : Int) != 120) = true := by simp only [bne_iff_ne, ne_eq]; omega
          have he : escR s.data.toList a = .error a := by
            unfold escR
            rw [hsome]
            simp only
            rw [if_neg (by omega), if_pos hx]
          have HE := Lib.hid he
          clear he h34 h92 hx hsome
          go_enter Tryz.func68, Tryz.ntmps68
          go_wp2_with fail
          refine (next_byte r s a z _ H.out hs hlt).mono ?_
          rintro e w1 ⟨rfl, m, rfl⟩
          obtain ⟨c0, c1, c2, f1, f2⟩ := (H.out.drewN m).cells
          go_wp2_with fail
          refine (wrong_any r _ _ _).mono ?_
          rintro e w1 ⟨he, rfl⟩
          cases he
          go_wp2_with fail
          refine ⟨rfl, ?_⟩
          show EscP _ _ _ _ _ _ _
          rw [HE.out]
          exact ⟨rfl, KB.drewN m⟩
end

section
open Go.RowKit
set_option maxRecDepth 100000
def textF (s : List UInt8) : Nat → Nat → List UInt8 → Except Nat (List UInt8 × Nat)
  | 0, a, _ => .error a
  | k + 1, a, acc =>
    match s[a]? with
    | none => .error a
    | some c =>
      if c.toNat < 32 ∨ 126 < c.toNat then .error a
      else if c.toNat = 34 then .ok (acc, a + 1)
      else if c.toNat = 92 then
        match escR s (a + 1) with
        | .error p => .error p
        | .ok (x, a') => textF s k (a' + 1) (acc ++ [x])
      else textF s k (a + 1) (acc ++ [c])
/-- What reading a value comes to: the value, how far, how great; or where it went wrong, and how. -/
abbrev RR := Except (Nat × Int) (VT × Nat × Nat)
def ValP (r : Nat) (s : ByteArray) (w : World) : RR → Ending → World → Prop
  | .ok (t, a', z'), e, w' => ∃ v bs, e = .returned v ∧ RepV w' t v bs ∧ bs.Nodup ∧ (∀ g ∈ bs, w.heap.size ≤ g) ∧ RD r s a' z' w' ∧ KB r w w'
  | .error (p, c), e, w' => Wrong p c e ∧ KB r w w'
def ValQ (r : Nat) (s : ByteArray) (w : World) (x : RR) (e : Ending) (w' : World) : Prop := ValP r s w x e w'
def textV (z : Nat) : Except Nat (List UInt8 × Nat) → RR
  | .error p => .error (p, 5)
  | .ok (acc, a') => .ok (.text ⟨acc.toArray⟩, a', z + acc.length)
def rdAt (r : Nat) (w : World) : Nat := match w.cell? ⟨r, 1, none⟩ with
  | some (.int _ q) => q.toNat
  | _ => 0
theorem rdAt_of {r : Nat} {s : ByteArray} {a z : Nat} {w : World} (h : RD r s a z w) : rdAt r w = a := by unfold rdAt; rw [h.cells.2.1]; rfl
theorem lt_measure {r : Nat} {s : ByteArray} {a z a' z' : Nat} {w w' : World} (h : RD r s a z w) (h' : RD r s a' z' w') (hl : a < a') (hs : a' ≤ s.size) : s.size + 1 - rdAt r w' < s.size + 1 - rdAt r w := by
  rw [rdAt_of h, rdAt_of h']; omega
theorem escT_bd {s : List UInt8} : ∀ (k : Nat) (n : Int) (a : Nat) (x : UInt8) (a' : Nat), a < s.length → escT s k n a = .ok (x, a') → a ≤ a' ∧ a' < s.length
  | 0, n, a, x, a', ha, h => by simp only [escT, Except.ok.injEq, Prod.mk.injEq] at h; omega
  | k + 1, n, a, x, a', ha, h => by
    cases hc : s[a + 1]? with
    | none => rw [escT_none hc] at h; cases h
    | some c =>
      have hlt : a + 1 < s.length := (List.getElem?_eq_some_iff.1 hc).1
      rw [escT_some hc] at h
      split at h
      · cases h
      · split at h
        · cases h
        · have := escT_bd k _ (a + 1) x a' hlt h
          omega
theorem escR_bd {s : List UInt8} {a : Nat} {x : UInt8} {a' : Nat} (h : escR s a = .ok (x, a')) : a ≤ a' ∧ a' < s.length := by
  unfold escR at h
  cases hc : s[a]? with
  | none => rw [hc] at h; cases h
  | some c =>
    have hlt : a < s.length := (List.getElem?_eq_some_iff.1 hc).1
    rw [hc] at h
    simp only at h
    split at h
    · simp only [Except.ok.injEq, Prod.mk.injEq] at h; omega
    · split at h
      · cases h
      · exact escT_bd 2 0 a x a' hlt h
theorem conv_own {w : World} {B : Nat} {v : Value} {acc : List UInt8} (h : w.ownsRow B 5 1 v acc.length (Lib.byteCells acc)) : ∃ la lc, v = .slice la acc.length lc ∧ acc.length ≤ 9223372036854775807 ∧
    ∀ w' : World, (∀ g, la = some ⟨g, 0, none⟩ → w'.heap[g]? = w.heap[g]?) → (convert 63 90 (.slice la acc.length lc)).run Tryz.prog w' = .ok (.string ⟨acc.toArray⟩) w' := by
  have hc := fun (g : Nat) (e : v.ownBlock = some g) => h.cells e
  rcases h.2 with ⟨rfl, h0⟩ | ⟨g, cap, cur, rfl, _, hg, hn, hm, _⟩
  · have : acc = [] := List.eq_nil_of_length_eq_zero h0
    subst this
    exact ⟨none, 0, rfl, by simp, fun w' _ => Lib.run_convert_nil_bytes w' 63 90 5 0 Tryz.underlying63 Tryz.underlying5 Tryz.underlying90⟩
  · refine ⟨_, cap, rfl, by unfold maxLen at hm; omega, fun w' hk => ?_⟩
    refine run_convert_bytes_back w' 63 90 5 ⟨g, 0, none⟩ cap acc Tryz.underlying63 Tryz.underlying5 Tryz.underlying90 fun j hj => ?_
    have h1 := hc g rfl j (.int .u8 (acc[j].toNat : Int)) (by simp [Lib.byteCells, List.getElem?_eq_getElem hj])
    have e1 : (⟨g, 0, none⟩ : Addr).add j = ⟨g, j, none⟩ := by unfold Addr.add; split <;> simp_all
    rw [e1] at h1 ⊢
    rw [← h1]
    exact World.cell?_of_block (w := w) (w' := w') (a := ⟨g, j, none⟩) (hk g rfl)
theorem alloc_below' (w : World) (o : Obj) : Below w.heap.size w (w.alloc o) := (Below.refl _ _).alloc (Nat.le_refl _) _
set_option maxHeartbeats 4000000 in
theorem rtext_any (r : Nat) (s : ByteArray) (a z : Nat) (w : World) (h : RD r s a z w) (ha : a < s.size) (hs : s.size ≤ 1048576) (hz : z ≤ 1048577) :
    Calls Tryz.prog 51 #[.pointer (some ⟨r, 0, none⟩)] w (ValQ r s w (textV z (textF s.data.toList (s.size + 1) (a + 1) []))) := by
  have H := Lib.hid h
  obtain ⟨c0, c1, c2, f1, f2⟩ := h.cells
  clear h
  obtain ⟨i0, hi, hz0, hz1, hz2⟩ := info_parts infoB
  have HI0 := Lib.hid hi
  have HZ0 := Lib.hid hz0
  have HZ1 := Lib.hid hz1
  have HZ2 := Lib.hid hz2
  clear hi hz0 hz1 hz2
  obtain ⟨N, hN⟩ : ∃ N, N = w.heap.size := ⟨_, rfl⟩
  have HN := Lib.hid hN
  clear hN
  go_enter Tryz.func51, Tryz.ntmps51
  go_wp2_with fail
  go_loopw [3] (fun u wr => ∃ (k p : Nat) (acc : List UInt8) (bv : Value), bv = u ∧ p ≤ s.size ∧ acc.length ≤ p ∧ s.size < p + k ∧ Hid (wr.ownsRow N 5 1 bv acc.length (Lib.byteCells acc)) ∧ Hid (RD r s p z wr) ∧ Hid (KB r w wr) ∧ Hid (textF s.data.toList k p acc = textF s.data.toList (s.size + 1) (a + 1) []))
    (fun _ wr => s.size + 1 - rdAt r wr)
  case atStart => exact ⟨s.size + 1, a + 1, [], _, rfl, by omega, by simp, by omega, Lib.hid (World.ownsRow_nil _ _ _ _), Lib.hid (H.out.to1 (a + 1)), Lib.hid (KB.set 1 _), Lib.hid rfl⟩
  case round =>
    obtain ⟨k, p, acc, bv, rfl, hp, hacc, hk, hown, hrd, hkb, heq⟩ := hrel
    obtain ⟨k, rfl⟩ : ∃ j, k = j + 1 := ⟨k - 1, by omega⟩
    obtain ⟨c0, c1, c2, f1, f2⟩ := hrd.out.cells
    by_cases hend : p = s.size
    · have hnone : s.data.toList[p]? = none := List.getElem?_eq_none (by simp; omega)
      have hstep : textF s.data.toList (k + 1) p acc = .error p := by rw [textF, hnone]
      rw [show textF s.data.toList (k + 1) p acc = _ from hstep] at heq
      have HE1 : Hid (RD r s s.size z wr) := by rw [← hend]; exact hrd
      have HEN := Lib.hid hend
      clear hnone hstep hend
      go_wp2_with fail
      refine (next_end r s z _ HE1.out hs).mono ?_
      rintro e w1 ⟨rfl, m, rfl⟩
      go_wp2_with fail
      refine (wrong_any r _ _ _).mono ?_
      rintro e w1 ⟨he, rfl⟩
      cases he
      go_wp2_with fail
      refine ⟨rfl, ?_⟩
      show ValP _ _ _ _ _ _
      rw [← heq.out]
      exact ⟨rfl, hkb.out.trans (KB.drewN m)⟩
    · have hlt : p < s.size := by omega
      have hsome : s.data.toList[p]? = some s[p] := by rw [List.getElem?_eq_getElem (by simpa using hlt)]; rfl
      by_cases hbad : s[p].toNat < 32
      · have hstep : textF s.data.toList (k + 1) p acc = .error p := by
          rw [textF, hsome]; simp only; rw [if_pos (.inl hbad)]
        rw [show textF s.data.toList (k + 1) p acc = _ from hstep] at heq
        clear hsome hstep
        have n32 : (s[p].toNat : Int) < 32 := by omega
        go_wp2_with fail
        refine (next_byte r s p z _ hrd.out hs hlt).mono ?_
        rintro e w1 ⟨rfl, m, rfl⟩
        go_wp2_with fail
        refine (wrong_any r _ _ _).mono ?_
        rintro e w1 ⟨he, rfl⟩
        cases he
        go_wp2_with fail
        refine ⟨rfl, ?_⟩
        show ValP _ _ _ _ _ _
        rw [← heq.out]
        exact ⟨rfl, hkb.out.trans (KB.drewN m)⟩
      · by_cases hbad2 : 126 < s[p].toNat
        · have hstep : textF s.data.toList (k + 1) p acc = .error p := by
            rw [textF, hsome]; simp only; rw [if_pos (.inr hbad2)]
          rw [show textF s.data.toList (k + 1) p acc = _ from hstep] at heq
          clear hsome hstep
          have n32 : ¬ ((s[p].toNat : Int) < 32) := by omega
          have n126 : 126 < (s[p].toNat : Int) := by omega
          go_wp2_with fail
          refine (next_byte r s p z _ hrd.out hs hlt).mono ?_
          rintro e w1 ⟨rfl, m, rfl⟩
          go_wp2_with fail
          refine (wrong_any r _ _ _).mono ?_
          rintro e w1 ⟨he, rfl⟩
          cases he
          go_wp2_with fail
          refine ⟨rfl, ?_⟩
          show ValP _ _ _ _ _ _
          rw [← heq.out]
          exact ⟨rfl, hkb.out.trans (KB.drewN m)⟩
        · have n32 : ¬ ((s[p].toNat : Int) < 32) := by omega
          have n126 : ¬ (126 < (s[p].toNat : Int)) := by omega
          by_cases h34 : s[p].toNat = 34
          · have b34 : ((s[p].toNat : Int) == 34) = true := by rw [h34]; rfl
            have hstep : textF s.data.toList (k + 1) p acc = .ok (acc, p + 1) := by
              rw [textF, hsome]; simp only; rw [if_neg (by omega), if_pos h34]
            rw [show textF s.data.toList (k + 1) p acc = _ from hstep] at heq
            have hbase : ∀ g, bv.ownBlock = some g → N ≤ g := fun g hg => (hown.out.lt g hg).1
            obtain ⟨la, lc, rfl, hmx, hconv⟩ := conv_own hown.out
            have HC := Lib.hid hconv
            have HBA := Lib.hid hbase
            have H34 := Lib.hid h34
            clear hsome hstep h34 hconv hbase
            go_wp2_with fail
            refine (next_byte r s p z _ hrd.out hs hlt).mono ?_
            rintro e w1 ⟨rfl, m, rfl⟩
            go_wp2_with fail
            rw [HC.out _ (fun g e => ?_)]
            · simp only [Result.andThen]
              rw [Oper.upon_value]
              go_wp2_with fail
              go_ret
              show ValP _ _ _ _ _ _
              rw [← heq.out]
              exact ⟨_, [], rfl, ⟨rfl, rfl⟩, by simp, by simp, ((hrd.out.drewN m).to1 (p + 1)).to2 (z + acc.length), ((hkb.out.trans (KB.drewN m)).trans (KB.set 1 _)).trans (KB.set 2 _)⟩
            · have h1 := HBA.out g (by rw [e]; rfl)
              have h2 := H.out.lt
              have h3 := HN.out
              exact (Below.heap_setCell _ _ _ _ (by simp; omega)).trans (Below.heap_setCell _ _ _ _ (by simp; omega))
          · have b34 : ((s[p].toNat : Int) == 34) = false := by simp only [beq_eq_false_iff_ne, ne_eq]; omega
            by_cases h92 : s[p].toNat = 92
            · have b92 : ((s[p].toNat : Int) == 92) = true := by rw [h92]; rfl
              have hstep : textF s.data.toList (k + 1) p acc = match escR s.data.toList (p + 1) with
                  | .error q => .error q
                  | .ok (x, a') => textF s.data.toList k (a' + 1) (acc ++ [x]) := by
                rw [textF, hsome]; simp only; rw [if_neg (by omega), if_neg h34, if_pos h92]
              rw [show textF s.data.toList (k + 1) p acc = _ from hstep] at heq
              have hesc : ∀ x a', escR s.data.toList (p + 1) = .ok (x, a') → p + 1 ≤ a' ∧ a' < s.data.toList.length := fun x a' h => escR_bd h
              have HB := Lib.hid hesc
              have H92 := Lib.hid h92
              clear hsome hstep h34 h92 hesc
              go_wp2_with fail
              refine (next_byte r s p z _ hrd.out hs hlt).mono ?_
              rintro e w1 ⟨rfl, m, rfl⟩
              have HR1 := Lib.hid ((hrd.out.drewN m).to1 (p + 1))
              have HK1 := Lib.hid ((hkb.out.trans (KB.drewN m)).trans (KB.set 1 (.int .i64 (p + 1 : Nat))))
              have HO1 : Hid (((wr.drewN m).setCell ⟨r, 1, none⟩ (.int .i64 (p + 1 : Nat))).ownsRow N 5 1 bv acc.length (Lib.byteCells acc)) := ownsRow_keep hown.out (fun g hg => Below.heap_setCell _ _ _ _ (by have h1 := (hown.out.lt g hg).1; have h2 := H.out.lt; have h3 := HN.out; simp; omega))
              go_wp2_with fail
              refine (esc_any r s (p + 1) z _ HR1.out (by omega) hs).mono ?_
              cases hx : escR s.data.toList (p + 1) with
              | error q =>
                rw [hx] at heq
                have HX := Lib.hid hx
                clear hx
                intro e w2 hq
                obtain ⟨he, hk2⟩ : EscP r s z _ (.error q) e w2 := hq
                cases he
                go_wp2_with fail
                refine ⟨rfl, ?_⟩
                show ValP _ _ _ _ _ _
                rw [← heq.out]
                exact ⟨rfl, HK1.out.trans hk2⟩
              | ok xa =>
                obtain ⟨x, a'⟩ := xa
                have hbd := HB.out x a' hx
                have hsz : s.data.toList.length = s.size := by simp
                rw [hx] at heq
                have HX := Lib.hid hx
                clear hx
                intro e w2 hq
                obtain ⟨rfl, hr2, hk2⟩ : EscP r s z _ (.ok (x, a')) e w2 := hq
                have HR2 := Lib.hid hr2
                have HK2 := Lib.hid (HK1.out.trans hk2)
                have HO2 : Hid (w2.ownsRow N 5 1 bv acc.length (Lib.byteCells acc)) := ownsRow_keep HO1.out (fun g hg => hk2.block g (HO1.out.lt g hg).2 (by have h1 := (HO1.out.lt g hg).1; have h2 := H.out.lt; have h3 := HN.out; simp; omega))
                clear hr2 hk2
                go_wp2_with (at_builtin; refine wpList_append_own _ rfl _ _ 63 rfl N 5 i0 (.int .u8 0) 1 1 Tryz.underlying63 HI0.out HZ0.out HZ1.out HZ2.out rfl (by decide) _ _ _ rfl (HO2.out.alloc _) ⟨w2.heap.size, 0, none⟩ 1 1 [.int .u8 x.toNat] rfl rfl ?c1 ?c2 ?c3 ?c4 ?c5 ?_)
                case c1 => exact one_new _ _ _
                case c2 => intro u hu; simp at hu; subst hu; rfl
                case c3 => unfold maxLen; omega
                case c4 => omega
                case c5 => have h1 := HN.out; have h2 := HK2.out.size; simp at h2 ⊢; omega
                intro bv' w3 hown' hgrow _
                have hne : bv.ownBlock ≠ some r := fun e => by have h1 := (HO2.out.lt r e).1; have h2 := H.out.lt; have h3 := HN.out; omega
                have HR3 : Hid (RD r s a' z w3) := by
                  have h1 := HR2.out
                  have h2 := h1.lt
                  show w3.heap[r]? = _
                  rw [hgrow.block r (by simp; omega) (fun e => hne e.symm), Below.heap_alloc _ _ _ h2]
                  exact h1
                have HK3 : Hid (KB r w w3) := by
                  have h1 := HK2.out
                  have h2 := HN.out
                  have h4 := h1.size
                  refine ⟨hgrow.os.trans h1.os, hgrow.tape.trans h1.tape, hgrow.output.trans h1.output, by have := hgrow.size; simp at this; omega, fun g hg hgr => ?_⟩
                  rw [hgrow.block g (by simp; omega) (fun e => by have h3 := (HO2.out.lt g e.symm).1; omega), Below.heap_alloc _ _ _ (by omega)]
                  exact h1.block g hg hgr
                have HO3 : Hid ((w3.setCell ⟨r, 1, none⟩ (.int .i64 (a' + 1 : Nat))).ownsRow N 5 1 bv' (acc ++ [x]).length (Lib.byteCells (acc ++ [x]))) := by
                  have h1 : w3.ownsRow N 5 1 bv' (acc ++ [x]).length (Lib.byteCells (acc ++ [x])) := by simpa [Lib.byteCells] using hown'
                  exact ownsRow_keep h1 (fun g hg => Below.heap_setCell _ _ _ _ (by have h1 := (hown'.lt g hg).1; have h2 := H.out.lt; have h3 := HN.out; simp; omega))
                obtain ⟨d0, d1, d2, g1, g2⟩ := HR3.out.cells
                clear hown' hgrow hne
                go_wp2_with fail
                go_roundw
                case rel => exact ⟨k, a' + 1, acc ++ [x], bv', rfl, by omega, by simp; omega, by omega, HO3, Lib.hid (HR3.out.to1 (a' + 1)), Lib.hid (HK3.out.trans (KB.set 1 _)), heq⟩
                case measure => exact lt_measure hrd.out (HR3.out.to1 (a' + 1)) (by omega) (by omega)
            · have b92 : ((s[p].toNat : Int) == 92) = false := by simp only [beq_eq_false_iff_ne, ne_eq]; omega
              have hstep : textF s.data.toList (k + 1) p acc = textF s.data.toList k (p + 1) (acc ++ [s[p]]) := by
                rw [textF, hsome]; simp only; rw [if_neg (by omega), if_neg h34, if_neg h92]
              rw [show textF s.data.toList (k + 1) p acc = _ from hstep] at heq
              clear hsome hstep h34 h92
              go_wp2_with fail
              refine (next_byte r s p z _ hrd.out hs hlt).mono ?_
              rintro e w1 ⟨rfl, m, rfl⟩
              have HR2 := Lib.hid (hrd.out.drewN m)
              have HK2 := Lib.hid (hkb.out.trans (KB.drewN m))
              have HO2 : Hid ((wr.drewN m).ownsRow N 5 1 bv acc.length (Lib.byteCells acc)) := hown
              go_wp2_with (at_builtin; refine wpList_append_own _ rfl _ _ 63 rfl N 5 i0 (.int .u8 0) 1 1 Tryz.underlying63 HI0.out HZ0.out HZ1.out HZ2.out rfl (by decide) _ _ _ rfl (HO2.out.alloc _) ⟨(wr.drewN m).heap.size, 0, none⟩ 1 1 [.int .u8 s[p].toNat] rfl rfl ?c1 ?c2 ?c3 ?c4 ?c5 ?_)
              case c1 => exact one_new _ _ _
              case c2 => intro u hu; simp at hu; subst hu; rfl
              case c3 => unfold maxLen; (have hds : (wr.drewN m).heap.size = wr.heap.size := rfl; omega)
              case c4 => (have hds : (wr.drewN m).heap.size = wr.heap.size := rfl; omega)
              case c5 => have h1 := HN.out; have h2 := HK2.out.size; simp at h2 ⊢; (have hds : (wr.drewN m).heap.size = wr.heap.size := rfl; omega)
              intro bv' w3 hown' hgrow _
              have hne : bv.ownBlock ≠ some r := fun e => by have h1 := (HO2.out.lt r e).1; have h2 := H.out.lt; have h3 := HN.out; (have hds : (wr.drewN m).heap.size = wr.heap.size := rfl; omega)
              have HR3 : Hid (RD r s p z w3) := by
                have h1 := HR2.out
                have h2 := h1.lt
                show w3.heap[r]? = _
                rw [hgrow.block r (by simp; (have hds : (wr.drewN m).heap.size = wr.heap.size := rfl; omega)) (fun e => hne e.symm), Below.heap_alloc _ _ _ h2]
                exact h1
              have HK3 : Hid (KB r w w3) := by
                have h1 := HK2.out
                have h2 := HN.out
                have h4 := h1.size
                refine ⟨hgrow.os.trans h1.os, hgrow.tape.trans h1.tape, hgrow.output.trans h1.output, by have := hgrow.size; simp at this; (have hds : (wr.drewN m).heap.size = wr.heap.size := rfl; omega), fun g hg hgr => ?_⟩
                rw [hgrow.block g (by simp; (have hds : (wr.drewN m).heap.size = wr.heap.size := rfl; omega)) (fun e => by have h3 := (HO2.out.lt g e.symm).1; (have hds : (wr.drewN m).heap.size = wr.heap.size := rfl; omega)), Below.heap_alloc _ _ _ (by (have hds : (wr.drewN m).heap.size = wr.heap.size := rfl; omega))]
                exact h1.block g hg hgr
              have HO3 : Hid ((w3.setCell ⟨r, 1, none⟩ (.int .i64 (p + 1 : Nat))).ownsRow N 5 1 bv' (acc ++ [s[p]]).length (Lib.byteCells (acc ++ [s[p]]))) := by
                have h1 : w3.ownsRow N 5 1 bv' (acc ++ [s[p]]).length (Lib.byteCells (acc ++ [s[p]])) := by simpa [Lib.byteCells] using hown'
                exact ownsRow_keep h1 (fun g hg => Below.heap_setCell _ _ _ _ (by have h1 := (hown'.lt g hg).1; have h2 := H.out.lt; have h3 := HN.out; simp; (have hds : (wr.drewN m).heap.size = wr.heap.size := rfl; omega)))
              obtain ⟨d0, d1, d2, g1, g2⟩ := HR3.out.cells
              clear hown' hgrow hne
              go_wp2_with fail
              go_roundw
              case rel => exact ⟨k, p + 1, acc ++ [s[p]], bv', rfl, by omega, by simp; omega, by omega, HO3, Lib.hid (HR3.out.to1 (p + 1)), Lib.hid (HK3.out.trans (KB.set 1 _)), heq⟩
              case measure => exact lt_measure hrd.out (HR3.out.to1 (p + 1)) (by (have hds : (wr.drewN m).heap.size = wr.heap.size := rfl; omega)) (by (have hds : (wr.drewN m).heap.size = wr.heap.size := rfl; omega))
end

section
open Go.RowKit
set_option maxRecDepth 100000
def NewE (w : World) (t : VT) (c : Int) (e : Ending) (w' : World) : Prop := ∃ v bs, e = .returned (.tuple #[v, .int .i64 c]) ∧ RepV w' t v bs ∧ bs.Nodup ∧ (∀ g ∈ bs, w.heap.size ≤ g) ∧ Below w.heap.size w w'
def NilE (w : World) (c : Int) (e : Ending) (w' : World) : Prop := e = .returned (.tuple #[.nilIface, .int .i64 c]) ∧ Below w.heap.size w w'
set_option maxHeartbeats 2000000 in
theorem of_no (p : PT) (w : World) (v : Value) (hv : ArgP w p v) (hm : mayP p = false) : Calls Tryz.prog 6 #[v] w (NilE w 1) := by
  cases p with
  | mk k n s l =>
    have hv2 := hv
    obtain ⟨_, _, la, lc, rfl, _⟩ := hv2
    have HV := Lib.hid hv
    have HM := Lib.hid hm
    clear hv hm
    go_enter Tryz.func6, Tryz.ntmps6
    go_wp2_with fail
    refine (may_any _ _ _ (HV.out.below (alloc_below w _))).mono ?_
    rintro e w1 ⟨rfl, hb1⟩
    rw [HM.out]
    go_wp2_with fail
    go_ret2
    exact ⟨rfl, (alloc_below w _).trans (hb1.mono (by simp))⟩
set_option maxHeartbeats 2000000 in
theorem of_yes (p : PT) (w : World) (v : Value) (hv : ArgP w p v) (hm : mayP p = true) : Calls Tryz.prog 6 #[v] w (NewE w (valOf p) 0) := by
  cases p with
  | mk k n s l =>
    have hv2 := hv
    obtain ⟨_, _, la, lc, rfl, _⟩ := hv2
    have HV := Lib.hid hv
    have HM := Lib.hid hm
    have hc0 : CellsP (w.alloc (.cells #[.int .i64 k, .int .i64 n, .string s, .slice la l.length lc] 27)) w.heap.size 0 k n s la l.length lc := cells_new w _ _ _ _ _
    have HC := Lib.hid hc0
    clear hv hm hc0
    go_enter Tryz.func6, Tryz.ntmps6
    go_wp2_with fail
    refine (may_any _ _ _ (HV.out.below (alloc_below w _))).mono ?_
    rintro e w1 ⟨rfl, hb1⟩
    have hB1 := (alloc_below w _).trans (hb1.mono (by simp))
    have H1 := Lib.hid (arg_box HV.out hB1 (HC.out.below hb1))
    rw [HM.out]
    go_wp2_with fail
    refine (value_any _ _ _ _ H1.out).mono ?_
    rintro e w2 ⟨x, bs, rfl, hx, hnd, hge, hb2⟩
    have HX := Lib.hid hx
    have HN := Lib.hid hnd
    have HG := Lib.hid hge
    clear hx hnd hge
    go_wp2_with fail
    go_ret2
    exact ⟨_, bs, rfl, HX.out, HN.out, fun g hg => Nat.le_trans hB1.size (HG.out g hg), hB1.trans (hb2.mono hB1.size)⟩
end

section
open Go.RowKit
set_option maxRecDepth 100000
mutual
def okP : PT → Prop
  | .mk _ n _ l => (-9223372036854775808 ≤ n ∧ n ≤ 9223372036854775807) ∧ okPs l
def okPs : List PT → Prop
  | [] => True
  | p :: r => okP p ∧ okPs r
end
mutual
theorem okV_of : ∀ p : PT, okP p → okV (valOf p)
  | .mk k n s l, h => by
    unfold valOf
    split
    · trivial
    · split
      · trivial
      · split
        · exact h.1
        · split
          · trivial
          · exact okVs_of l h.2
theorem okVs_of : ∀ l : List PT, okPs l → okVs (valsOf l)
  | [], _ => trivial
  | p :: r, h => ⟨okV_of p h.1, okVs_of r h.2⟩
end
mutual
theorem encB_bd : ∀ (p : PT) (left deep : Int), (meas p left deep).2 = true → (encB (valOf p) : Int) + 2 ≤ 22 * (meas p left deep).1
  | .mk k n s l, left, deep, h => by
    have ih := encBs_bd l left (deep + 1) 1
    unfold meas at h ⊢
    unfold valOf
    split at h
    · simp at h
    · rename_i h0
      rw [if_neg h0]
      by_cases h1 : k = 1
      · rw [if_pos h1, if_pos h1]; simp [encB]
      · rw [if_neg h1] at h; rw [if_neg h1, if_neg h1]
        by_cases h2 : k = 2
        · rw [if_pos h2, if_pos h2]; simp [encB]
        · rw [if_neg h2] at h; rw [if_neg h2, if_neg h2]
          by_cases h3 : k = 3
          · rw [if_pos h3, if_pos h3]; simp [encB]
          · rw [if_neg h3] at h; rw [if_neg h3, if_neg h3]
            by_cases h4 : k = 4
            · rw [if_pos h4, if_pos h4]; simp only [encB]; omega
            · rw [if_neg h4] at h; rw [if_neg h4, if_neg h4]
              by_cases h5 : k = 5
              · rw [if_pos h5] at h; rw [if_pos h5]
                split at h
                · simp at h
                · rename_i h6
                  rw [if_neg h6]
                  have := ih h
                  simp only [encB]; omega
              · rw [if_neg h5] at h; simp at h
theorem encBs_bd : ∀ (l : List PT) (left deep n : Int), (measL l left deep n).2 = true → (encBs (valsOf l) : Int) + 22 * n ≤ 22 * (measL l left deep n).1
  | [], left, deep, n, h => by simp [valsOf, encBs, measL]
  | p :: r, left, deep, n, h => by
    simp only [measL] at h ⊢
    split at h
    · rename_i hp
      rw [if_pos hp]
      have h1 := encB_bd p (left - n) deep hp
      have h2 := encBs_bd r left deep _ h
      simp only [valsOf, encBs]
      omega
    · simp at h
end
theorem encB_may {p : PT} (h : mayP p = true) : encB (valOf p) ≤ 1441790 := by
  have h1 := encB_bd p 65536 0 h
  have h2 := (meas_bd p 65536 0 h).2
  omega
def textP (p : PT) : List UInt8 × Int := if mayP p then (if 1048576 < (enc (valOf p)).length then ([], 2) else (enc (valOf p), 0)) else ([], 1)
def TextE (w : World) (r : List UInt8 × Int) (e : Ending) (w' : World) : Prop := e = .returned (.tuple #[.string ⟨r.1.toArray⟩, .int .i64 r.2]) ∧ Below w.heap.size w w'
theorem Bld.fresh (w : World) : Bld w.heap.size w.heap.size [] (w.alloc (.cells #[.pointer none, .slice none 0 0] 65)) := Lib.IsBuilderF.of (Lib.fresh_isBuilder 65 5 w)
theorem Bld.keep {B b : Nat} {l : List UInt8} {w w' : World} (h : Bld B b l w) (hb : Below w.heap.size w w') : Bld B b l w' := by
  have hk : ∀ g o, w.heap[g]? = some o → w'.heap[g]? = some o := fun g o hg => by rw [hb.block g (Array.getElem?_eq_some_iff.1 hg).1]; exact hg
  have key : ∀ p, Lib.BuilderAtF 65 5 B b p (Lib.byteCells l) w → Lib.BuilderAtF 65 5 B b p (Lib.byteCells l) w' := by
    rintro p ⟨h1, v, h2, h3, h4⟩
    refine ⟨h1, v, hk _ _ h2, ⟨h3.1, ?_⟩, h4⟩
    rcases h3.2 with hn | ⟨g, cap, cur, fz, hv, hbg, hg, rest⟩
    · exact .inl hn
    · exact .inr ⟨g, cap, cur, fz, hv, hbg, hk _ _ hg, rest⟩
  exact h.imp (key _) (key _)
set_option maxHeartbeats 2000000 in
theorem text_any (p : PT) (w : World) (v : Value) (hv : ArgP w p v) (ho : okP p) (ht : Tabs w) (h5 : 5 ≤ w.heap.size) : Calls Tryz.prog 8 #[v] w (TextE w (textP p)) := by
  cases p with
  | mk k n s l =>
    have hv2 := hv
    obtain ⟨_, _, la, lc, rfl, _⟩ := hv2
    have HV := Lib.hid hv
    have HO := Lib.hid ho
    have HT := Lib.hid ht
    have hc0 : CellsP (w.alloc (.cells #[.int .i64 k, .int .i64 n, .string s, .slice la l.length lc] 27)) w.heap.size 0 k n s la l.length lc := cells_new w _ _ _ _ _
    have HC := Lib.hid hc0
    have HE : Hid (textP (.mk k n s l) = if mayP (.mk k n s l) then (if 1048576 < (enc (valOf (.mk k n s l))).length then ([], 2) else (enc (valOf (.mk k n s l)), 0)) else ([], 1)) := Lib.hid rfl
    have HB := Lib.hid (@encB_may (.mk k n s l))
    clear hv hc0 ho ht
    go_enter Tryz.func8, Tryz.ntmps8
    go_wp2_with fail
    refine (may_any _ _ _ (HV.out.below (alloc_below w _))).mono ?_
    rintro e w1 ⟨rfl, hb1⟩
    have hB1 := (alloc_below w _).trans (hb1.mono (by simp))
    have HC1 := Lib.hid (HC.out.below hb1)
    cases hm : mayP (.mk k n s l)
    · rw [hm] at HE
      clear hm
      go_wp2_with fail
      go_ret2
      exact ⟨by rw [HE.out]; rfl, hB1⟩
    · rw [hm] at HE
      have HBB := Lib.hid (HB.out hm)
      clear hm
      go_wp2_with fail
      have HF := Lib.hid (Bld.fresh w1)
      have hB2 : Below w.heap.size w (w1.alloc (.cells #[.pointer none, .slice none 0 0] 65)) := hB1.alloc hB1.size _
      have H1 := Lib.hid (arg_box HV.out hB2 (HC1.out.below (alloc_below w1 _)))
      refine (value_any _ _ _ _ H1.out).mono ?_
      rintro e w2 ⟨x, bs, rfl, hx, hnd, hge, hb2⟩
      have HX := Lib.hid hx
      have hnb : w1.heap.size ∉ bs := fun hm => by have := hge _ hm; simp at this; omega
      have HNB := Lib.hid hnb
      have HF2 := Lib.hid (HF.out.keep hb2)
      have hs1 := hB1.size
      have hs2 : w1.heap.size + 1 ≤ w2.heap.size := by have := hb2.size; simp at this; omega
      have hB3 : Below w.heap.size w w2 := hB2.trans (hb2.mono (by simp; omega))
      have hB31 : Below w1.heap.size w1 w2 := (alloc_below w1 _).trans (hb2.mono (by simp))
      clear hx hnd hge hnb
      go_wp2_with fail
      refine (write_any _ w1.heap.size w1.heap.size x bs [] w2 (okV_of _ HO.out) HX.out HNB.out HF2.out (by have := HBB.out; simp; omega) (by omega) (by omega) (HT.out.below hB3 h5)).mono ?_
      rintro e w3 ⟨rfl, hw3⟩
      have HW3 := Lib.hid hw3
      clear hw3
      have hB4 : Below w.heap.size w w3 := hB3.trans (HW3.out.2.1.mono hs1)
      go_wp2_with fail
      refine (Tryz.Builder_Len_f _ _ _ w3 HW3.out.1).mono ?_
      rintro e w4 ⟨rfl, rfl⟩
      rw [Lib.byteCells_length, List.nil_append]
      by_cases hlong : 1048576 < (enc (valOf (.mk k n s l))).length
      · rw [if_pos trivial, if_pos hlong] at HE
        go_wp2_with fail
        go_ret2
        exact ⟨by rw [HE.out]; rfl, hB4⟩
      · rw [if_pos trivial, if_neg hlong] at HE
        go_wp2_with fail
        refine (Tryz.Builder_String_any_k _ _ _ _ HW3.out.1 (by have := HW3.out.2.1.size; omega)).mono ?_
        rintro e w5 ⟨rfl, _, hb5, _⟩
        have hB5 : Below w.heap.size w w5 := hB4.trans (hb5.mono hs1)
        go_wp2_with fail
        go_ret2
        exact ⟨by rw [HE.out]; rfl, hB5⟩
end

section
open Go.RowKit
set_option maxRecDepth 100000
theorem bytes_nil {s : ByteArray} (h : s.toList = []) : s = ⟨#[]⟩ := by
  have h1 : s.data.toList = [] := by
    have := ByteArray.toList_eq s
    rw [← this]; exact h
  obtain ⟨d⟩ := s
  obtain ⟨l⟩ := d
  simp at h1
  subst h1
  rfl
mutual
theorem may_plain : ∀ (p : PT) (left deep : Int), left ≤ 65536 → deep ≤ 64 → (meas p left deep).2 = true →
    plainOf (valOf p) = p ∧ (nodesV (valOf p) : Int) ≤ (meas p left deep).1 ∧ deep + depV (valOf p) ≤ 64 ∧ txtV (valOf p)
  | .mk k n s l, left, deep, hl, hd, h => by
    unfold meas at h ⊢
    split at h
    · simp at h
    · rename_i h0
      rw [if_neg h0]
      have hs : k ≠ 4 → s = ⟨#[]⟩ := fun hk => bytes_nil (Classical.byContradiction fun hn => h0 (.inr (.inl ⟨hk, hn⟩)))
      have hll : k ≠ 5 → l = [] := fun hk => List.length_eq_zero_iff.1 (by have := fun hn : 0 < l.length => h0 (.inr (.inr ⟨hk, hn⟩)); omega)
      split at h
      · rename_i h1
        rw [if_pos h1]
        simp only [decide_eq_true_eq] at h
        subst h; subst h1
        rw [hs (by decide), hll (by decide)]
        simp [valOf, plainOf, nodesV, depV, txtV]; omega
      · rename_i h1
        rw [if_neg h1]
        split at h
        · rename_i h2
          rw [if_pos h2]
          simp only [decide_eq_true_eq] at h
          subst h2
          rw [hs (by decide), hll (by decide)]
          refine ⟨?_, by simp [valOf, nodesV], by simp [valOf, depV]; omega, by simp [valOf, txtV]⟩
          rcases h with h | h <;> subst h <;> simp [valOf, plainOf]
        · rename_i h2
          rw [if_neg h2]
          split at h
          · rename_i h3
            rw [if_pos h3]
            subst h3
            rw [hs (by decide), hll (by decide)]
            simp [valOf, plainOf, nodesV, depV, txtV]; omega
          · rename_i h3
            rw [if_neg h3]
            split at h
            · rename_i h4
              rw [if_pos h4]
              simp only [decide_eq_true_eq] at h
              subst h4
              rw [hll (by decide)]
              obtain ⟨rfl, hsz⟩ := h
              refine ⟨by simp [valOf, plainOf], by simp [valOf, nodesV]; omega, by simp [valOf, depV]; omega, ?_⟩
              simp [valOf, txtV]; omega
            · rename_i h4
              rw [if_neg h4]
              split at h
              · rename_i h5
                rw [if_pos h5]
                split at h
                · simp at h
                · rename_i h6
                  rw [if_neg h6]
                  subst h5
                  rw [hs (by decide)]
                  have hn : n = 0 := Classical.byContradiction fun hn => h6 (.inl hn)
                  have hdd : deep ≠ 64 := fun e => h6 (.inr e)
                  subst hn
                  obtain ⟨e1, e2, e3, e4⟩ := may_plains l left (deep + 1) 1 (by omega) hl (by omega) h
                  refine ⟨by simp [valOf, plainOf, e1], by simp [valOf, nodesV]; omega, by simp [valOf, depV]; omega, by simp [valOf, txtV, e4]⟩
              · simp at h
theorem may_plains : ∀ (l : List PT) (left deep n : Int), 0 ≤ n → left ≤ 65536 → deep ≤ 64 → (measL l left deep n).2 = true →
    plainsOf (valsOf l) = l ∧ n + (nodesVs (valsOf l) : Int) ≤ (measL l left deep n).1 ∧ deep + depVs (valsOf l) ≤ 65 ∧ txtVs (valsOf l)
  | [], left, deep, n, hn, hl, hd, h => by simp [measL, valsOf, plainsOf, nodesVs, depVs, txtVs]; omega
  | p :: r, left, deep, n, hn, hl, hd, h => by
    simp only [measL] at h ⊢
    split at h
    · rename_i hp
      rw [if_pos hp]
      obtain ⟨a1, a2, a3, a4⟩ := may_plain p (left - n) deep (by omega) hd hp
      obtain ⟨b1, b2, b3, b4⟩ := may_plains r left deep _ (by omega) hl hd h
      simp only [valsOf, plainsOf, nodesVs, depVs, txtVs, a1, b1]
      refine ⟨trivial, by omega, by omega, a4, b4⟩
    · simp at h
end
mutual
theorem meas_indep : ∀ (p : PT) (left deep left' deep' : Int), left ≤ left' → deep' ≤ deep → deep ≤ 64 → (meas p left deep).2 = true → meas p left' deep' = meas p left deep
  | .mk k n s l, left, deep, left', deep', hl, hd, h64, h => by
    unfold meas at h ⊢
    split at h
    · simp at h
    · rename_i h0
      rw [if_neg h0, if_neg (fun h1 => h0 (by rcases h1 with h1 | h1; exact .inl (by omega); exact .inr h1))]
      split at h
      · rename_i h1; rw [if_pos h1, if_pos h1]
      · rename_i h1
        rw [if_neg h1, if_neg h1]
        split at h
        · rename_i h2; rw [if_pos h2, if_pos h2]
        · rename_i h2
          rw [if_neg h2, if_neg h2]
          split at h
          · rename_i h3; rw [if_pos h3, if_pos h3]
          · rename_i h3
            rw [if_neg h3, if_neg h3]
            split at h
            · rename_i h4
              rw [if_pos h4, if_pos h4]
              simp only [decide_eq_true_eq] at h
              obtain ⟨h5, h6⟩ := h
              have h7 : (s.size : Int) < left' := by omega
              simp [h5, h6, h7]
            · rename_i h4
              rw [if_neg h4, if_neg h4]
              split at h
              · rename_i h5
                rw [if_pos h5, if_pos h5]
                split at h
                · simp at h
                · rename_i h6
                  have h7 : ¬ (n ≠ 0 ∨ deep' = 64) := fun e => h6 (by rcases e with e | e; exact .inl e; exact .inr (by omega))
                  have h8 : deep ≠ 64 := fun e => h6 (.inr e)
                  rw [if_neg h6, if_neg h7]
                  exact measL_indep l left (deep + 1) left' (deep' + 1) 1 hl (by omega) (by omega) h
              · simp at h
theorem measL_indep : ∀ (l : List PT) (left deep left' deep' n : Int), left ≤ left' → deep' ≤ deep → deep ≤ 64 → (measL l left deep n).2 = true → measL l left' deep' n = measL l left deep n
  | [], left, deep, left', deep', n, hl, hd, h64, h => rfl
  | p :: r, left, deep, left', deep', n, hl, hd, h64, h => by
    simp only [measL] at h ⊢
    split at h
    · rename_i hp
      have h1 := meas_indep p (left - n) deep (left' - n) deep' (by omega) hd h64 hp
      rw [h1, if_pos hp, if_pos hp]
      exact measL_indep r left deep left' deep' _ hl hd h64 h
    · simp at h
end
def sumS : List PT → Int
  | [] => 0
  | p :: r => sizeP p + sumS r
theorem measL_sum : ∀ (l : List PT) (left deep n : Int), 0 ≤ n → left ≤ 65536 → 0 ≤ deep → deep ≤ 64 → (measL l left deep n).2 = true → (measL l left deep n).1 = n + sumS l ∧ ∀ p ∈ l, mayP p = true
  | [], left, deep, n, hn, hl, hd, hd', h => by simp [measL, sumS]
  | p :: r, left, deep, n, hn, hl, hd, hd', h => by
    simp only [measL] at h ⊢
    split at h
    · rename_i hp
      rw [if_pos hp]
      have h1 := meas_indep p (left - n) deep 65536 0 (by omega) hd hd' hp
      have h2 := meas_bd p (left - n) deep hp
      have h3 : mayP p = true := by unfold mayP; rw [h1]; exact hp
      have h4 : sizeP p = (meas p (left - n) deep).1 := by unfold sizeP; rw [if_pos h3, h1]
      obtain ⟨b1, b2⟩ := measL_sum r left deep _ (by omega) hl hd hd' h
      refine ⟨?_, fun q hq => ?_⟩
      · rw [b1]; simp only [sumS, h4]; omega
      · rcases List.mem_cons.1 hq with e | e
        · rw [e]; exact h3
        · exact b2 q e
    · simp at h
theorem sizeP_pos (p : PT) (h : mayP p = true) : 1 ≤ sizeP p ∧ sizeP p ≤ 65536 := by
  unfold sizeP
  rw [if_pos h]
  exact meas_bd p 65536 0 h
theorem sizeP_zero (p : PT) (h : mayP p = false) : sizeP p = 0 := by
  unfold sizeP
  rw [h]; rfl
theorem sumS_nonneg : ∀ l : List PT, 0 ≤ sumS l
  | [] => Int.le_refl _
  | p :: r => by
    have := sumS_nonneg r
    simp only [sumS]
    cases h : mayP p
    · rw [sizeP_zero p h]; omega
    · have := sizeP_pos p h; omega
/-- A list that may be: its size. -/
theorem list_size (l : List PT) (h : mayP (.mk 5 0 ⟨#[]⟩ l) = true) : sizeP (.mk 5 0 ⟨#[]⟩ l) = 1 + sumS l ∧ 1 + sumS l ≤ 65536 ∧ ∀ p ∈ l, mayP p = true := by
  have h1 := (sizeP_pos _ h).2
  unfold sizeP at h1 ⊢
  rw [if_pos h] at h1 ⊢
  unfold mayP at h
  unfold meas at h h1 ⊢
  simp only [show ((65536 : Int) < 1) = False from by simp, show (⟨#[]⟩ : ByteArray).toList = [] from by simp [ByteArray.toList_eq], ne_eq, not_true_eq_false, and_false, or_false, false_and, if_false, show ((5 : Int) = 1) = False from by simp, show ((5 : Int) = 2) = False from by simp, show ((5 : Int) = 3) = False from by simp, show ((5 : Int) = 4) = False from by simp, show ((0 : Int) = 64) = False from by simp, if_true] at h h1 ⊢
  obtain ⟨e1, e2⟩ := measL_sum l 65536 (0 + 1) 1 (by omega) (by omega) (by omega) (by omega) h
  rw [e1] at h1
  exact ⟨e1, h1, e2⟩
def accS : List PT → Int → Int
  | [], n => n
  | p :: r, n => accS r (min (n + sizeP p) 1099511627776)
theorem accS_eq : ∀ (l : List PT) (n : Int), n + sumS l ≤ 65536 → accS l n = n + sumS l
  | [], n, h => by simp [accS, sumS]
  | p :: r, n, h => by
    simp only [accS, sumS] at h ⊢
    have h1 := sumS_nonneg r
    have h2 : min (n + sizeP p) 1099511627776 = n + sizeP p := by omega
    rw [h2, accS_eq r _ (by omega)]; omega
end

section
open Go.RowKit
set_option maxRecDepth 100000
/-- What 'left' answers. -/
def leftI (p : PT) (size deep : Int) : Int := if (meas p size deep).2 then size - (meas p size deep).1 else -1
def goodP (k n : Int) (s : ByteArray) (l : List PT) (deep : Int) : Prop :=
  (k = 1 ∧ n = 0 ∧ s.toList = [] ∧ l.length = 0) ∨ (k = 2 ∧ (n = 0 ∨ n = 1) ∧ s.toList = [] ∧ l.length = 0) ∨ (k = 3 ∧ s.toList = [] ∧ l.length = 0) ∨ (k = 4 ∧ n = 0 ∧ l.length = 0) ∨ (k = 5 ∧ n = 0 ∧ s.toList = [] ∧ deep < 64)
theorem size_nil {s : ByteArray} (h : s.toList = []) : s.size = 0 := by
  rw [bytes_nil h]; rfl
theorem meas_good {k n : Int} {s : ByteArray} {l : List PT} {size deep : Int} (hd : deep ≤ 64) (h : (meas (.mk k n s l) size deep).2 = true) : goodP k n s l deep ∧ 0 ≤ size - 1 - s.size := by
  unfold meas at h
  split at h
  · simp at h
  · rename_i h0
    have hs : k ≠ 4 → s.toList = [] := fun hk => Classical.byContradiction fun hn => h0 (.inr (.inl ⟨hk, hn⟩))
    have hl : k ≠ 5 → l.length = 0 := fun hk => by have := fun hn : 0 < l.length => h0 (.inr (.inr ⟨hk, hn⟩)); omega
    have h1 : 1 ≤ size := by have := fun e : size < 1 => h0 (.inl e); omega
    split at h
    · rename_i hk; simp only [decide_eq_true_eq] at h
      exact ⟨.inl ⟨hk, h, hs (by omega), hl (by omega)⟩, by rw [size_nil (hs (by omega))]; omega⟩
    · split at h
      · rename_i hk; simp only [decide_eq_true_eq] at h
        exact ⟨.inr (.inl ⟨hk, h, hs (by omega), hl (by omega)⟩), by rw [size_nil (hs (by omega))]; omega⟩
      · split at h
        · rename_i hk
          exact ⟨.inr (.inr (.inl ⟨hk, hs (by omega), hl (by omega)⟩)), by rw [size_nil (hs (by omega))]; omega⟩
        · split at h
          · rename_i hk; simp only [decide_eq_true_eq] at h
            exact ⟨.inr (.inr (.inr (.inl ⟨hk, h.1, hl (by omega)⟩))), by omega⟩
          · split at h
            · rename_i hk
              split at h
              · simp at h
              · rename_i h2
                have hn : n = 0 := Classical.byContradiction fun e => h2 (.inl e)
                have hd' : deep ≠ 64 := fun e => h2 (.inr e)
                exact ⟨.inr (.inr (.inr (.inr ⟨hk, hn, hs (by omega), by omega⟩))), by rw [size_nil (hs (by omega))]; omega⟩
            · simp at h
theorem left_bad {k n : Int} {s : ByteArray} {l : List PT} {size deep : Int} (hd : deep ≤ 64) (h : ¬ (goodP k n s l deep ∧ 0 ≤ size - 1 - s.size)) : leftI (.mk k n s l) size deep = -1 := by
  unfold leftI
  rw [if_neg (fun e => h (meas_good hd e))]
theorem left_leaf {k n : Int} {s : ByteArray} {l : List PT} {size deep : Int} (hk : k ≠ 5) (hg : goodP k n s l deep) (hz : 0 ≤ size - 1 - s.size) : leftI (.mk k n s l) size deep = size - 1 - s.size := by
  have e : meas (.mk k n s l) size deep = (1 + (s.size : Int), true) := by
    unfold meas
    rcases hg with ⟨rfl, rfl, h1, h2⟩ | ⟨rfl, h0, h1, h2⟩ | ⟨rfl, h1, h2⟩ | ⟨rfl, rfl, h2⟩ | ⟨rfl, _⟩
    · have := size_nil h1
      rw [if_neg (by simp [h1, h2]; omega), if_pos rfl]; simp [this]
    · have := size_nil h1
      rw [if_neg (by simp [h1, h2]; omega), if_neg (by decide), if_pos rfl]; simp [h0, this]
    · have := size_nil h1
      rw [if_neg (by simp [h1, h2]; omega), if_neg (by decide), if_neg (by decide), if_pos rfl]; simp [this]
    · rw [if_neg (by simp [h2]; omega), if_neg (by decide), if_neg (by decide), if_neg (by decide), if_pos rfl]
      have : (s.size : Int) < size := by omega
      simp [this]
    · exact absurd rfl hk
  unfold leftI
  rw [e]
  simp only [if_true]; omega
def leftL (l : List PT) (left deep n : Int) : Int := if (measL l left deep n).2 then left - (measL l left deep n).1 else -1
theorem left_list {n : Int} {s : ByteArray} {l : List PT} {size deep : Int} (hg : goodP 5 n s l deep) (hz : 0 ≤ size - 1 - s.size) : leftI (.mk 5 n s l) size deep = leftL l size (deep + 1) 1 := by
  rcases hg with ⟨h, _⟩ | ⟨h, _⟩ | ⟨h, _⟩ | ⟨h, _⟩ | ⟨_, rfl, h1, h2⟩
  · omega
  · omega
  · omega
  · omega
  have := size_nil h1
  unfold leftI leftL
  have e : meas (.mk 5 0 s l) size deep = measL l size (deep + 1) 1 := by
    rw [meas, if_neg (by simp [h1]; omega), if_neg (by decide), if_neg (by decide), if_neg (by decide), if_neg (by decide), if_pos rfl, if_neg (by omega)]
  rw [e]
theorem leftL_step (p : PT) (r : List PT) (left deep n : Int) : leftL (p :: r) left deep n = if 0 ≤ leftI p (left - n) deep then leftL r left deep (left - leftI p (left - n) deep) else -1 := by
  have hb := meas_bd p (left - n) deep
  rcases h : meas p (left - n) deep with ⟨k, ok⟩
  rw [h] at hb
  have hi : leftI p (left - n) deep = if ok then left - n - k else -1 := by unfold leftI; rw [h]
  cases ok with
  | false =>
    have e : measL (p :: r) left deep n = (0, false) := by simp [measL, h]
    unfold leftL
    rw [hi, e]; simp
  | true =>
    have := hb rfl
    dsimp only at this
    have e : measL (p :: r) left deep n = measL r left deep (n + k) := by simp [measL, h]
    have e2 : left - leftI p (left - n) deep = n + k := by rw [hi]; simp only [if_true]; omega
    have e3 : 0 ≤ leftI p (left - n) deep := by rw [hi]; simp only [if_true]; omega
    rw [if_pos e3, e2]
    unfold leftL
    rw [e]
theorem left_bd (p : PT) (size deep : Int) : leftI p size deep = -1 ∨ (0 ≤ leftI p size deep ∧ leftI p size deep < size) := by
  unfold leftI
  by_cases h : (meas p size deep).2 = true
  · have hb := meas_bd p size deep h
    rw [if_pos h]; omega
  · rw [if_neg h]; exact .inl rfl
theorem left_may (p : PT) : (0 ≤ leftI p 65536 0 ↔ mayP p = true) ∧ (if leftI p 65536 0 < 0 then 0 else 65536 - leftI p 65536 0) = sizeP p := by
  unfold leftI mayP sizeP mayP
  by_cases h : (meas p 65536 0).2 = true
  · have hb := meas_bd p 65536 0 h
    rw [if_pos h, if_pos h]
    refine ⟨⟨fun _ => h, fun _ => by omega⟩, ?_⟩
    rw [if_neg (by omega)]; omega
  · rw [if_neg h, if_neg h]
    exact ⟨⟨fun e => by omega, fun e => absurd e h⟩, rfl⟩
end

section
open Go.RowKit
set_option maxRecDepth 100000
def LeftFor (p : PT) : Prop := ∀ (w : World) (v : Value) (size deep : Int), ArgP w p v → 0 ≤ size → size ≤ 65536 → 0 ≤ deep → deep ≤ 64 → Calls Tryz.prog 36 #[v, .int .i64 size, .int .i64 deep] w (RetB w (.int .i64 (leftI p size deep)))
theorem left_bad0 {k n : Int} {s : ByteArray} {l : List PT} {size deep : Int} (hd : deep ≤ 64) (hn : n = 0) (h : ¬ (goodP k n s l deep ∧ 0 ≤ size - 1 - s.size)) : leftI (.mk k 0 s l) size deep = -1 := by
  subst hn; exact left_bad hd h
theorem leftL_nil (left deep n : Int) : leftL [] left deep n = left - n := by simp [leftL, measL]
theorem leftL_bd : ∀ (l : List PT) (left deep n : Int), leftL l left deep n = -1 ∨ leftL l left deep n ≤ left - n
  | [], left, deep, n => by rw [leftL_nil]; omega
  | p :: r, left, deep, n => by
    rw [leftL_step]
    have h1 := left_bd p (left - n) deep
    have h2 := leftL_bd r left deep (left - leftI p (left - n) deep)
    split
    · omega
    · exact .inl rfl
set_option maxHeartbeats 4000000 in
theorem l_one (w : World) (n size deep : Int) (s : ByteArray) (l : List PT) (la : Option Addr) (lc : Nat) (hs : s.size ≤ 140737488355328) (hl : l.length ≤ 4398046511104) (h0 : 0 ≤ size) (h1 : size ≤ 65536) (_hd0 : 0 ≤ deep) (hd1 : deep ≤ 64)
    (ih : ∀ p ∈ l, LeftFor p) (hla : l ≠ [] → ∃ b' o', la = some ⟨b', o', none⟩ ∧ InPs w b' o' l) :
    Calls Tryz.prog 36 #[.agg #[.int .i64 1, .int .i64 n, .string s, .slice la l.length lc], .int .i64 size, .int .i64 deep] w (RetB w (.int .i64 (leftI (.mk 1 n s l) size deep))) := by
  have HL := Lib.hid hla
  have HI := Lib.hid ih
  clear hla ih
  go_enter Tryz.func36, Tryz.ntmps36
  go_wp2_with fail
  all_goals first
  | (have hbad : ¬ (goodP 1 n s l deep ∧ 0 ≤ size - 1 - (s.size : Int)) := by
      (rintro ⟨hg, hz⟩
       have hgg : n = 0 ∧ s.toList = [] ∧ l.length = 0 := by
         (rcases hg with ⟨e, h⟩ | ⟨e, h⟩ | ⟨e, h⟩ | ⟨e, h⟩ | ⟨e, h⟩ <;> first | exact h | (exfalso; omega))
       obtain ⟨g1, g2, g3⟩ := hgg
       first | omega | (simp_all; done) | (simp_all; omega))
     go_ret
     exact ⟨ret_int (Eq.symm (by first | exact left_bad hd1 hbad | exact left_bad0 hd1 (by assumption) hbad)), alloc_below _ _⟩)
  | (have hgg : n = 0 ∧ s.toList = [] ∧ l.length = 0 := by (first | (simp_all; done) | (simp_all; omega))
     have hz : 0 ≤ size - 1 - (s.size : Int) := by (first | omega | (simp_all; omega))
     have hgp : goodP 1 n s l deep := .inl ⟨rfl, hgg⟩
     have HE := Lib.hid (left_leaf (by decide) (l := l) (size := size) hgp hz)
     obtain rfl : l = [] := List.length_eq_zero_iff.1 (by omega)
     obtain rfl : n = 0 := by omega
     have hcell : (w.alloc (.cells #[.int .i64 1, .int .i64 0, .string s, .slice la 0 lc] 27)).cell? ⟨w.heap.size, 3, none⟩ = some (.slice la 0 lc) := (cells_new w _ _ _ _ _).2.2.2
     have hB0 : Below w.heap.size w (w.alloc (.cells #[.int .i64 1, .int .i64 0, .string s, .slice la 0 lc] 27)) := alloc_below _ _
     clear hgp hgg HI HL
     generalize (w.alloc (.cells #[.int .i64 1, .int .i64 0, .string s, .slice la 0 lc] 27)) = W at hcell hB0 ⊢
     have HB0 := Lib.hid hB0
     clear hB0
     go_loopw [1, 8] (fun zv iv wr => iv = .int .i64 0 ∧ zv = .int .i64 (size - 1 - (s.size : Int)) ∧ wr = W) (fun _ _ _ => 0)
     case atStart => exact ⟨rfl, rfl, rfl⟩
     case round =>
       obtain ⟨rfl, rfl, rfl⟩ := hrel
       go_wp2_with fail
       go_ret
       exact ⟨ret_int (Eq.symm HE.out), HB0.out⟩)
set_option maxHeartbeats 4000000 in
theorem l_two (w : World) (n size deep : Int) (s : ByteArray) (l : List PT) (la : Option Addr) (lc : Nat) (hs : s.size ≤ 140737488355328) (hl : l.length ≤ 4398046511104) (h0 : 0 ≤ size) (h1 : size ≤ 65536) (_hd0 : 0 ≤ deep) (hd1 : deep ≤ 64)
    (ih : ∀ p ∈ l, LeftFor p) (hla : l ≠ [] → ∃ b' o', la = some ⟨b', o', none⟩ ∧ InPs w b' o' l) :
    Calls Tryz.prog 36 #[.agg #[.int .i64 2, .int .i64 n, .string s, .slice la l.length lc], .int .i64 size, .int .i64 deep] w (RetB w (.int .i64 (leftI (.mk 2 n s l) size deep))) := by
  have HL := Lib.hid hla
  have HI := Lib.hid ih
  clear hla ih
  go_enter Tryz.func36, Tryz.ntmps36
  go_wp2_with fail
  all_goals first
  | (have hbad : ¬ (goodP 2 n s l deep ∧ 0 ≤ size - 1 - (s.size : Int)) := by
      (rintro ⟨hg, hz⟩
       have hgg : (n = 0 ∨ n = 1) ∧ s.toList = [] ∧ l.length = 0 := by
         (rcases hg with ⟨e, h⟩ | ⟨e, h⟩ | ⟨e, h⟩ | ⟨e, h⟩ | ⟨e, h⟩ <;> first | exact h | (exfalso; omega))
       obtain ⟨g1, g2, g3⟩ := hgg
       first | omega | (simp_all; done) | (simp_all; omega))
     go_ret
     exact ⟨ret_int (Eq.symm (by first | exact left_bad hd1 hbad | exact left_bad0 hd1 (by assumption) hbad)), alloc_below _ _⟩)
  | (have hgg : (n = 0 ∨ n = 1) ∧ s.toList = [] ∧ l.length = 0 := by (first | (simp_all; done) | (simp_all; omega))
     have hz : 0 ≤ size - 1 - (s.size : Int) := by (first | omega | (simp_all; omega))
     have hgp : goodP 2 n s l deep := .inr (.inl ⟨rfl, hgg⟩)
     have HE := Lib.hid (left_leaf (by decide) (l := l) (size := size) hgp hz)
     obtain rfl : l = [] := List.length_eq_zero_iff.1 (by omega)
     obtain rfl : n = 0 := by (first | omega | (simp_all; done))
     have hcell : (w.alloc (.cells #[.int .i64 2, .int .i64 0, .string s, .slice la 0 lc] 27)).cell? ⟨w.heap.size, 3, none⟩ = some (.slice la 0 lc) := (cells_new w _ _ _ _ _).2.2.2
     have hB0 : Below w.heap.size w (w.alloc (.cells #[.int .i64 2, .int .i64 0, .string s, .slice la 0 lc] 27)) := alloc_below _ _
     clear hgp hgg HI HL
     generalize (w.alloc (.cells #[.int .i64 2, .int .i64 0, .string s, .slice la 0 lc] 27)) = W at hcell hB0 ⊢
     have HB0 := Lib.hid hB0
     clear hB0
     go_loopw [1, 8] (fun zv iv wr => iv = .int .i64 0 ∧ zv = .int .i64 (size - 1 - (s.size : Int)) ∧ wr = W) (fun _ _ _ => 0)
     case atStart => exact ⟨rfl, rfl, rfl⟩
     case round =>
       obtain ⟨rfl, rfl, rfl⟩ := hrel
       go_wp2_with fail
       go_ret
       exact ⟨ret_int (Eq.symm HE.out), HB0.out⟩)
  | (have hgg : (n = 0 ∨ n = 1) ∧ s.toList = [] ∧ l.length = 0 := by (first | (simp_all; done) | (simp_all; omega))
     have hz : 0 ≤ size - 1 - (s.size : Int) := by (first | omega | (simp_all; omega))
     have hgp : goodP 2 n s l deep := .inr (.inl ⟨rfl, hgg⟩)
     have HE := Lib.hid (left_leaf (by decide) (l := l) (size := size) hgp hz)
     obtain rfl : l = [] := List.length_eq_zero_iff.1 (by omega)
     obtain rfl : n = 1 := by (first | omega | (simp_all; done))
     have hcell : (w.alloc (.cells #[.int .i64 2, .int .i64 1, .string s, .slice la 0 lc] 27)).cell? ⟨w.heap.size, 3, none⟩ = some (.slice la 0 lc) := (cells_new w _ _ _ _ _).2.2.2
     have hB0 : Below w.heap.size w (w.alloc (.cells #[.int .i64 2, .int .i64 1, .string s, .slice la 0 lc] 27)) := alloc_below _ _
     clear hgp hgg HI HL
     generalize (w.alloc (.cells #[.int .i64 2, .int .i64 1, .string s, .slice la 0 lc] 27)) = W at hcell hB0 ⊢
     have HB0 := Lib.hid hB0
     clear hB0
     go_loopw [1, 8] (fun zv iv wr => iv = .int .i64 0 ∧ zv = .int .i64 (size - 1 - (s.size : Int)) ∧ wr = W) (fun _ _ _ => 0)
     case atStart => exact ⟨rfl, rfl, rfl⟩
     case round =>
       obtain ⟨rfl, rfl, rfl⟩ := hrel
       go_wp2_with fail
       go_ret
       exact ⟨ret_int (Eq.symm HE.out), HB0.out⟩)
set_option maxHeartbeats 4000000 in
theorem l_three (w : World) (n size deep : Int) (s : ByteArray) (l : List PT) (la : Option Addr) (lc : Nat) (hs : s.size ≤ 140737488355328) (hl : l.length ≤ 4398046511104) (h0 : 0 ≤ size) (h1 : size ≤ 65536) (_hd0 : 0 ≤ deep) (hd1 : deep ≤ 64)
    (ih : ∀ p ∈ l, LeftFor p) (hla : l ≠ [] → ∃ b' o', la = some ⟨b', o', none⟩ ∧ InPs w b' o' l) :
    Calls Tryz.prog 36 #[.agg #[.int .i64 3, .int .i64 n, .string s, .slice la l.length lc], .int .i64 size, .int .i64 deep] w (RetB w (.int .i64 (leftI (.mk 3 n s l) size deep))) := by
  have HL := Lib.hid hla
  have HI := Lib.hid ih
  clear hla ih
  go_enter Tryz.func36, Tryz.ntmps36
  go_wp2_with fail
  all_goals first
  | (have hbad : ¬ (goodP 3 n s l deep ∧ 0 ≤ size - 1 - (s.size : Int)) := by
      (rintro ⟨hg, hz⟩
       have hgg : s.toList = [] ∧ l.length = 0 := by
         (rcases hg with ⟨e, h⟩ | ⟨e, h⟩ | ⟨e, h⟩ | ⟨e, h⟩ | ⟨e, h⟩ <;> first | exact h | (exfalso; omega))
       obtain ⟨g1, g2⟩ := hgg
       first | omega | (simp_all; done) | (simp_all; omega))
     go_ret
     exact ⟨ret_int (Eq.symm (by first | exact left_bad hd1 hbad | exact left_bad0 hd1 (by assumption) hbad)), alloc_below _ _⟩)
  | (have hgg : s.toList = [] ∧ l.length = 0 := by (first | (simp_all; done) | (simp_all; omega))
     have hz : 0 ≤ size - 1 - (s.size : Int) := by (first | omega | (simp_all; omega))
     have hgp : goodP 3 n s l deep := .inr (.inr (.inl ⟨rfl, hgg⟩))
     have HE := Lib.hid (left_leaf (by decide) (l := l) (size := size) hgp hz)
     obtain rfl : l = [] := List.length_eq_zero_iff.1 (by omega)
     skip
     have hcell : (w.alloc (.cells #[.int .i64 3, .int .i64 n, .string s, .slice la 0 lc] 27)).cell? ⟨w.heap.size, 3, none⟩ = some (.slice la 0 lc) := (cells_new w _ _ _ _ _).2.2.2
     have hB0 : Below w.heap.size w (w.alloc (.cells #[.int .i64 3, .int .i64 n, .string s, .slice la 0 lc] 27)) := alloc_below _ _
     clear hgp hgg HI HL
     generalize (w.alloc (.cells #[.int .i64 3, .int .i64 n, .string s, .slice la 0 lc] 27)) = W at hcell hB0 ⊢
     have HB0 := Lib.hid hB0
     clear hB0
     go_loopw [1, 8] (fun zv iv wr => iv = .int .i64 0 ∧ zv = .int .i64 (size - 1 - (s.size : Int)) ∧ wr = W) (fun _ _ _ => 0)
     case atStart => exact ⟨rfl, rfl, rfl⟩
     case round =>
       obtain ⟨rfl, rfl, rfl⟩ := hrel
       go_wp2_with fail
       go_ret
       exact ⟨ret_int (Eq.symm HE.out), HB0.out⟩)
set_option maxHeartbeats 4000000 in
theorem l_four (w : World) (n size deep : Int) (s : ByteArray) (l : List PT) (la : Option Addr) (lc : Nat) (hs : s.size ≤ 140737488355328) (hl : l.length ≤ 4398046511104) (h0 : 0 ≤ size) (h1 : size ≤ 65536) (_hd0 : 0 ≤ deep) (hd1 : deep ≤ 64)
    (ih : ∀ p ∈ l, LeftFor p) (hla : l ≠ [] → ∃ b' o', la = some ⟨b', o', none⟩ ∧ InPs w b' o' l) :
    Calls Tryz.prog 36 #[.agg #[.int .i64 4, .int .i64 n, .string s, .slice la l.length lc], .int .i64 size, .int .i64 deep] w (RetB w (.int .i64 (leftI (.mk 4 n s l) size deep))) := by
  have HL := Lib.hid hla
  have HI := Lib.hid ih
  clear hla ih
  go_enter Tryz.func36, Tryz.ntmps36
  go_wp2_with fail
  all_goals first
  | (have hbad : ¬ (goodP 4 n s l deep ∧ 0 ≤ size - 1 - (s.size : Int)) := by
      (rintro ⟨hg, hz⟩
       have hgg : n = 0 ∧ l.length = 0 := by
         (rcases hg with ⟨e, h⟩ | ⟨e, h⟩ | ⟨e, h⟩ | ⟨e, h⟩ | ⟨e, h⟩ <;> first | exact h | (exfalso; omega))
       obtain ⟨g1, g2⟩ := hgg
       first | omega | (simp_all; done) | (simp_all; omega))
     go_ret
     exact ⟨ret_int (Eq.symm (by first | exact left_bad hd1 hbad | exact left_bad0 hd1 (by assumption) hbad)), alloc_below _ _⟩)
  | (have hgg : n = 0 ∧ l.length = 0 := by (first | (simp_all; done) | (simp_all; omega))
     have hz : 0 ≤ size - 1 - (s.size : Int) := by (first | omega | (simp_all; omega))
     have hgp : goodP 4 n s l deep := .inr (.inr (.inr (.inl ⟨rfl, hgg⟩)))
     have HE := Lib.hid (left_leaf (by decide) (l := l) (size := size) hgp hz)
     obtain rfl : l = [] := List.length_eq_zero_iff.1 (by omega)
     obtain rfl : n = 0 := by omega
     have hcell : (w.alloc (.cells #[.int .i64 4, .int .i64 0, .string s, .slice la 0 lc] 27)).cell? ⟨w.heap.size, 3, none⟩ = some (.slice la 0 lc) := (cells_new w _ _ _ _ _).2.2.2
     have hB0 : Below w.heap.size w (w.alloc (.cells #[.int .i64 4, .int .i64 0, .string s, .slice la 0 lc] 27)) := alloc_below _ _
     clear hgp hgg HI HL
     generalize (w.alloc (.cells #[.int .i64 4, .int .i64 0, .string s, .slice la 0 lc] 27)) = W at hcell hB0 ⊢
     have HB0 := Lib.hid hB0
     clear hB0
     go_loopw [1, 8] (fun zv iv wr => iv = .int .i64 0 ∧ zv = .int .i64 (size - 1 - (s.size : Int)) ∧ wr = W) (fun _ _ _ => 0)
     case atStart => exact ⟨rfl, rfl, rfl⟩
     case round =>
       obtain ⟨rfl, rfl, rfl⟩ := hrel
       go_wp2_with fail
       go_ret
       exact ⟨ret_int (Eq.symm HE.out), HB0.out⟩)
set_option maxHeartbeats 4000000 in
theorem l_five (w : World) (n size deep : Int) (s : ByteArray) (l : List PT) (la : Option Addr) (lc : Nat) (hs : s.size ≤ 140737488355328) (hl : l.length ≤ 4398046511104) (h0 : 0 ≤ size) (h1 : size ≤ 65536) (_hd0 : 0 ≤ deep) (hd1 : deep ≤ 64)
    (ih : ∀ p ∈ l, LeftFor p) (hla : l ≠ [] → ∃ b' o', la = some ⟨b', o', none⟩ ∧ InPs w b' o' l) :
    Calls Tryz.prog 36 #[.agg #[.int .i64 5, .int .i64 n, .string s, .slice la l.length lc], .int .i64 size, .int .i64 deep] w (RetB w (.int .i64 (leftI (.mk 5 n s l) size deep))) := by
  have HL := Lib.hid hla
  have HI := Lib.hid ih
  clear hla ih
  go_enter Tryz.func36, Tryz.ntmps36
  go_wp2_with fail
  all_goals first
  | (have hbad : ¬ (goodP 5 n s l deep ∧ 0 ≤ size - 1 - (s.size : Int)) := by
      (rintro ⟨hg, hz⟩
       have hgg : n = 0 ∧ s.toList = [] ∧ deep < 64 := by
         (rcases hg with ⟨e, h⟩ | ⟨e, h⟩ | ⟨e, h⟩ | ⟨e, h⟩ | ⟨e, h⟩ <;> first | exact h | (exfalso; omega))
       obtain ⟨g1, g2, g3⟩ := hgg
       first | omega | (simp_all; done) | (simp_all; omega))
     go_ret
     exact ⟨ret_int (Eq.symm (by first | exact left_bad hd1 hbad | exact left_bad0 hd1 (by assumption) hbad)), alloc_below _ _⟩)
  | (have hgg : n = 0 ∧ s.toList = [] ∧ deep < 64 := by (first | (simp_all; done) | (simp_all; omega))
     have hz : 0 ≤ size - 1 - (s.size : Int) := by (first | omega | (simp_all; omega))
     have hgp : goodP 5 n s l deep := .inr (.inr (.inr (.inr ⟨rfl, hgg⟩)))
     obtain rfl : n = 0 := hgg.1
     have HE := Lib.hid (left_list (l := l) (size := size) hgp hz)
     have hcell : (w.alloc (.cells #[.int .i64 5, .int .i64 0, .string s, .slice la l.length lc] 27)).cell? ⟨w.heap.size, 3, none⟩ = some (.slice la l.length lc) := (cells_new w _ _ _ _ _).2.2.2
     have HDL : Hid (l ≠ [] → deep < 64) := Lib.hid (fun _ => hgg.2.2)
     have hst : leftI (.mk 5 0 s l) size deep = leftL l size (deep + 1) (size - (size - 1 - (s.size : Int))) := by
       (rw [HE.out, show size - (size - 1 - (s.size : Int)) = 1 from by rw [size_nil hgg.2.1]; omega])
     have HST := Lib.hid hst
     have hB0 : Below w.heap.size w (w.alloc (.cells #[.int .i64 5, .int .i64 0, .string s, .slice la l.length lc] 27)) := alloc_below _ _
     generalize (w.alloc (.cells #[.int .i64 5, .int .i64 0, .string s, .slice la l.length lc] 27)) = W at hcell hB0 ⊢
     obtain ⟨N, hN⟩ : ∃ N, N = w.heap.size := ⟨_, rfl⟩
     simp only [← hN] at hcell ⊢
     have HB0 := Lib.hid hB0
     generalize hac : size - 1 - (s.size : Int) = acc0 at hz HST ⊢
     have hac2 : acc0 < size := by omega
     clear hN hst HE hgp hgg hB0 hac
     go_loopw [1, 8] (fun zv iv wr => ∃ (i : Nat) (acc : Int), i ≤ l.length ∧ iv = .int .i64 i ∧ zv = .int .i64 acc ∧ (acc = -1 ∨ 0 ≤ acc) ∧ acc < size ∧ Hid (Below W.heap.size W wr) ∧
         Hid (leftI (.mk 5 0 s l) size deep = if 0 ≤ acc then leftL (l.drop i) size (deep + 1) (size - acc) else -1))
       (fun _ iv _ => l.length - (intOf iv).toNat)
     case atStart => exact ⟨0, acc0, by omega, rfl, rfl, .inr hz, hac2, Lib.hid (Below.refl _ _), Lib.hid (by rw [if_pos hz]; exact HST.out)⟩
     case round =>
       obtain ⟨i, acc, hi, rfl, rfl, hacc, haccs, hB, hR⟩ := hrel
       have hcr := cell_stepA hcell hB.out
       by_cases hlt : i < l.length
       · rcases hacc with rfl | hacc
         · go_wp2_with fail
           go_ret
           exact ⟨ret_int (Eq.symm (by have := hR.out; rw [if_neg (by omega)] at this; exact this)), HB0.out.trans (hB.out.mono HB0.out.size)⟩
         · obtain ⟨b', o', rfl, hin⟩ := HL.out (by intro h; subst h; simp at hlt)
           have hBw := HB0.out.trans (hB.out.mono HB0.out.size)
           have hp := InPs.get l b' o' i hlt (InPs.below hBw _ _ _ hin)
           rw [Nat.mul_comm] at hp
           obtain ⟨k1, n1, s1, la1, lc1, l1, e1, ⟨x0, x1, x2, x3⟩, hx⟩ := arg_of_in hp
           have hdd := HDL.out (by intro h; subst h; simp at hlt)
           have HC := Lib.hid (HI.out l[i] (List.getElem_mem hlt) wr _ acc (deep + 1) hx hacc (by omega) (by omega) (by omega))
           have hstep : leftL (l.drop i) size (deep + 1) (size - acc) = if 0 ≤ leftI l[i] acc (deep + 1) then leftL (l.drop (i + 1)) size (deep + 1) (size - leftI l[i] acc (deep + 1)) else -1 := by
             rw [List.drop_eq_getElem_cons hlt, leftL_step, show size - (size - acc) = acc from by omega]
           have hR2 := hR.out
           rw [if_pos hacc, hstep] at hR2
           have hbd := left_bd l[i] acc (deep + 1)
           generalize leftI l[i] acc (deep + 1) = z at HC hR2 hbd
           have HR2 := Lib.hid hR2
           clear hp hin hx hBw e1 hstep hR2 hdd
           go_wp2_with fail
           refine HC.out.mono ?_
           rintro e w1 ⟨rfl, hb1⟩
           have HB1 := Lib.hid (hB.out.trans (hb1.mono hB.out.size))
           clear hb1
           go_wp2_with fail
           go_roundw
           case rel => exact ⟨i + 1, z, by omega, by go_num, rfl, by omega, by omega, HB1, HR2⟩
           case measure => simp [intOf]; omega
       · obtain rfl : i = l.length := by omega
         have hR2 := hR.out
         rw [List.drop_length, leftL_nil] at hR2
         have HR2 : Hid (leftI (.mk 5 0 s l) size deep = acc) := Lib.hid (by rw [hR2]; split <;> omega)
         clear hR2 hacc
         go_wp2_with fail
         all_goals
           go_ret
           exact ⟨ret_int (Eq.symm HR2.out), HB0.out.trans (hB.out.mono HB0.out.size)⟩)
set_option maxHeartbeats 4000000 in
theorem l_none (k : Int) (w : World) (n size deep : Int) (s : ByteArray) (l : List PT) (la : Option Addr) (lc : Nat) (hs : s.size ≤ 140737488355328) (_hl : l.length ≤ 4398046511104) (h0 : 0 ≤ size) (h1 : size ≤ 65536) (_hd0 : 0 ≤ deep) (hd1 : deep ≤ 64)
    (ih : ∀ p ∈ l, LeftFor p) (hla : l ≠ [] → ∃ b' o', la = some ⟨b', o', none⟩ ∧ InPs w b' o' l) (hk1 : (k == 1) = false) (hk2 : (k == 2) = false) (hk3 : (k == 3) = false) (hk4 : (k == 4) = false) (hk5 : (k == 5) = false):
    Calls Tryz.prog 36 #[.agg #[.int .i64 k, .int .i64 n, .string s, .slice la l.length lc], .int .i64 size, .int .i64 deep] w (RetB w (.int .i64 (leftI (.mk k n s l) size deep))) := by
  have HL := Lib.hid hla
  have HI := Lib.hid ih
  clear hla ih
  go_enter Tryz.func36, Tryz.ntmps36
  go_wp2_with fail
  all_goals
    go_ret
    refine ⟨ret_int (Eq.symm (left_bad hd1 (fun hh => ?_))), alloc_below _ _⟩
    obtain ⟨hg, hz⟩ := hh
    simp only [beq_eq_false_iff_ne, ne_eq] at hk1 hk2 hk3 hk4 hk5
    rcases hg with ⟨e, _⟩ | ⟨e, _⟩ | ⟨e, _⟩ | ⟨e, _⟩ | ⟨e, _⟩
    · exact hk1 e
    · exact hk2 e
    · exact hk3 e
    · exact hk4 e
    · exact hk5 e
theorem left_step (k n : Int) (s : ByteArray) (l : List PT) (ih : ∀ p ∈ l, LeftFor p) : LeftFor (.mk k n s l) := by
  intro w v size deep hv h0 h1 hd0 hd1
  obtain ⟨hs, hl, la, lc, rfl, hla⟩ := hv
  by_cases h : k = 1
  · subst h; exact l_one w n size deep s l la lc hs hl h0 h1 hd0 hd1 ih hla
  by_cases h2 : k = 2
  · subst h2; exact l_two w n size deep s l la lc hs hl h0 h1 hd0 hd1 ih hla
  by_cases h3 : k = 3
  · subst h3; exact l_three w n size deep s l la lc hs hl h0 h1 hd0 hd1 ih hla
  by_cases h4 : k = 4
  · subst h4; exact l_four w n size deep s l la lc hs hl h0 h1 hd0 hd1 ih hla
  by_cases h5 : k = 5
  · subst h5; exact l_five w n size deep s l la lc hs hl h0 h1 hd0 hd1 ih hla
  exact l_none k w n size deep s l la lc hs hl h0 h1 hd0 hd1 ih hla (by simpa using h) (by simpa using h2) (by simpa using h3) (by simpa using h4) (by simpa using h5)
mutual
theorem left_any : ∀ p : PT, LeftFor p
  | .mk k n s l => left_step k n s l (left_anys l)
theorem left_anys : ∀ l : List PT, ∀ p ∈ l, LeftFor p
  | [], p, h => by simp at h
  | q :: r, p, h => by
    rcases List.mem_cons.1 h with h | h
    · rw [h]; exact left_any q
    · exact left_anys r p h
end
set_option maxHeartbeats 1000000 in
/-- The document's May. -/
theorem rmay_any (p : PT) (w : World) (v : Value) (hv : ArgP w p v) : Calls Tryz.prog 16 #[v] w (RetB w (.bool (mayP p))) := by
  cases p with
  | mk k n s l =>
    have g := hv
    obtain ⟨_, _, la, lc, rfl, _⟩ := g
    have HC := Lib.hid (left_any (.mk k n s l) _ _ 65536 0 (hv.below (alloc_below w (.cells #[.int .i64 k, .int .i64 n, .string s, .slice la l.length lc] 27))) (by omega) (by omega) (by omega) (by omega))
    have HM := Lib.hid (left_may (.mk k n s l)).1
    generalize leftI (.mk k n s l) 65536 0 = z at HC HM
    clear hv
    go_enter Tryz.func16, Tryz.ntmps16
    go_wp2_with fail
    refine HC.out.mono ?_
    rintro e w1 ⟨rfl, hb1⟩
    have HB1 := Lib.hid ((alloc_below w _).trans (hb1.mono (by simp)))
    clear hb1
    go_wp2_with fail
    go_ret
    refine ⟨?_, HB1.out⟩
    have hm := HM.out
    cases h : mayP (.mk k n s l)
    · rw [h] at hm
      have : ¬ (0 ≤ z) := fun e => by simpa using hm.1 e
      simp [this]
    · rw [h] at hm
      have : 0 ≤ z := hm.2 rfl
      simp [this]
set_option maxHeartbeats 1000000 in
/-- The document's Size. -/
theorem rsize_any (p : PT) (w : World) (v : Value) (hv : ArgP w p v) : Calls Tryz.prog 22 #[v] w (RetB w (.int .i64 (sizeP p))) := by
  cases p with
  | mk k n s l =>
    have g := hv
    obtain ⟨_, _, la, lc, rfl, _⟩ := g
    have HC := Lib.hid (left_any (.mk k n s l) _ _ 65536 0 (hv.below (alloc_below w (.cells #[.int .i64 k, .int .i64 n, .string s, .slice la l.length lc] 27))) (by omega) (by omega) (by omega) (by omega))
    have HM := Lib.hid (left_may (.mk k n s l)).2
    have hbd := left_bd (.mk k n s l) 65536 0
    generalize leftI (.mk k n s l) 65536 0 = z at HC HM hbd
    clear hv
    by_cases hz : z < 0
    · go_enter Tryz.func22, Tryz.ntmps22
      go_wp2_with fail
      refine HC.out.mono ?_
      rintro e w1 ⟨rfl, hb1⟩
      have HB1 := Lib.hid ((alloc_below w _).trans (hb1.mono (by simp)))
      clear hb1
      go_wp2_with fail
      go_ret
      exact ⟨ret_int (by have := HM.out; rw [if_pos hz] at this; exact this), HB1.out⟩
    · have hz' : 0 ≤ z ∧ z < 65536 := by omega
      obtain ⟨hz1, hz2⟩ := hz'
      clear hbd
      go_enter Tryz.func22, Tryz.ntmps22
      go_wp2_with fail
      refine HC.out.mono ?_
      rintro e w1 ⟨rfl, hb1⟩
      have HB1 := Lib.hid ((alloc_below w _).trans (hb1.mono (by simp)))
      clear hb1
      go_wp2_with fail
      go_ret
      exact ⟨ret_int (by have := HM.out; rw [if_neg (by omega)] at this; exact this), HB1.out⟩
end

section
open Go.RowKit
set_option maxRecDepth 100000
theorem conv9 {w : World} {B : Nat} {v : Value} {acc : List UInt8} (h : w.ownsRow B 5 1 v acc.length (Lib.byteCells acc)) : ∃ la lc, v = .slice la acc.length lc ∧ acc.length ≤ 9223372036854775807 ∧
    ∀ w' : World, (∀ g, la = some ⟨g, 0, none⟩ → w'.heap[g]? = w.heap[g]?) → (convert 63 9 (.slice la acc.length lc)).run Tryz.prog w' = .ok (.string ⟨acc.toArray⟩) w' := by
  have hc := fun (g : Nat) (e : v.ownBlock = some g) => h.cells e
  rcases h.2 with ⟨rfl, h0⟩ | ⟨g, cap, cur, rfl, _, hg, hn, hm, _⟩
  · have : acc = [] := List.eq_nil_of_length_eq_zero h0
    subst this
    exact ⟨none, 0, rfl, by simp, fun w' _ => Lib.run_convert_nil_bytes w' 63 9 5 0 Tryz.underlying63 Tryz.underlying5 Tryz.underlying9⟩
  · refine ⟨_, cap, rfl, by unfold maxLen at hm; omega, fun w' hk => ?_⟩
    refine run_convert_bytes_back w' 63 9 5 ⟨g, 0, none⟩ cap acc Tryz.underlying63 Tryz.underlying5 Tryz.underlying9 fun j hj => ?_
    have h1 := hc g rfl j (.int .u8 (acc[j].toNat : Int)) (by simp [Lib.byteCells, List.getElem?_eq_getElem hj])
    have e1 : (⟨g, 0, none⟩ : Addr).add j = ⟨g, j, none⟩ := by unfold Addr.add; split <;> simp_all
    rw [e1] at h1 ⊢
    rw [← h1]
    exact World.cell?_of_block (w := w) (w' := w') (a := ⟨g, j, none⟩) (hk g rfl)
set_option maxHeartbeats 4000000 in
theorem reftext_any (p : PT) (w : World) (v : Value) (hv : ArgP w p v) (ho : okP p) : Calls Tryz.prog 23 #[v] w (TextE w (textP p)) := by
  cases p with
  | mk k n s l =>
    have hv2 := hv
    obtain ⟨_, _, la, lc, rfl, _⟩ := hv2
    have HV := Lib.hid hv
    have HO := Lib.hid ho
    have hc0 : CellsP (w.alloc (.cells #[.int .i64 k, .int .i64 n, .string s, .slice la l.length lc] 27)) w.heap.size 0 k n s la l.length lc := cells_new w _ _ _ _ _
    have HC := Lib.hid hc0
    have HE : Hid (textP (.mk k n s l) = if mayP (.mk k n s l) then (if 1048576 < (enc (valOf (.mk k n s l))).length then ([], 2) else (enc (valOf (.mk k n s l)), 0)) else ([], 1)) := Lib.hid rfl
    have HB := Lib.hid (@encB_may (.mk k n s l))
    have hB0 := alloc_below w (.cells #[.int .i64 k, .int .i64 n, .string s, .slice la l.length lc] 27)
    have HA := Lib.hid (HV.out.below hB0)
    have HB0 := Lib.hid hB0
    clear hv hc0 ho hB0
    go_enter Tryz.func23, Tryz.ntmps23
    go_wp2_with fail
    generalize (w.alloc (.cells #[.int .i64 k, .int .i64 n, .string s, .slice la l.length lc] 27)) = W at HC HA HB0 ⊢
    refine (rmay_any _ _ _ HA.out).mono ?_
    rintro e w1 ⟨rfl, hb1⟩
    have HB1 := Lib.hid (HB0.out.trans (hb1.mono HB0.out.size))
    have HC1 := Lib.hid (HC.out.below hb1)
    have HA1 := Lib.hid (HA.out.below hb1)
    clear hb1
    cases hm : mayP (.mk k n s l)
    · rw [hm] at HE
      clear hm
      go_wp2_with fail
      go_ret2
      exact ⟨by rw [HE.out]; rfl, HB1.out⟩
    · rw [hm] at HE
      have HBB := Lib.hid (HB.out hm)
      have hpv := (may_plain (.mk k n s l) 65536 0 (by omega) (by omega) hm).1
      have HIH := Lib.hid (wr_any (valOf (.mk k n s l)))
      have HOV := Lib.hid (okV_of _ HO.out)
      have HEL := Lib.hid (enc_len _ HOV.out)
      have HAP : Hid (ArgP w1 (plainOf (valOf (.mk k n s l))) (.agg #[.int .i64 k, .int .i64 n, .string s, .slice la l.length lc])) := Lib.hid (by rw [hpv]; exact HA1.out)
      have hcc := HC1.out
      obtain ⟨y0, y1, y2, y3⟩ := hcc
      clear hm hpv
      generalize valOf (.mk k n s l) = t at HE HBB HIH HOV HEL HAP
      go_wp2_with fail
      refine (HIH.out w1 w1 _ (.slice none 0 0) [] HAP.out (Below.refl _ _) ⟨rfl, .inl ⟨rfl, rfl⟩⟩ (by have := HBB.out; have := HEL.out; simp; omega) HOV.out).mono ?_
      rintro e w2 ⟨sv, M, rfl, hst, hm1, hm2⟩
      rw [List.nil_append] at hst
      simp only [List.length_nil, Nat.zero_add] at hm2
      have HB2 := Lib.hid (HB1.out.trans (hst.below.mono HB1.out.size))
      obtain ⟨sa, sc, rfl, hmx, hcv⟩ := conv9 hst.row
      have hcv2 := hcv w2 (fun _ _ => rfl)
      have HM1 := Lib.hid hm1
      have HM2 := Lib.hid hm2
      clear hst hm1 hm2 y0 y1 y2 y3 hcv
      by_cases hlong : 1048576 < M.length
      · have h1 : 1048576 < (enc t).length := by have := HM1.out; omega
        rw [if_pos trivial, if_pos h1] at HE
        clear h1
        go_wp2_with fail
        go_ret2
        exact ⟨by rw [HE.out]; rfl, HB2.out⟩
      · have h1 := HM2.out (by omega)
        have h2 : ¬ 1048576 < (enc t).length := by rw [← h1]; exact hlong
        rw [if_pos trivial, if_neg h2, ← h1] at HE
        clear h1 h2
        go_wp2_with fail
        go_ret2
        exact ⟨by rw [HE.out]; rfl, HB2.out⟩
end

section
open Go.RowKit
set_option maxRecDepth 100000
def scanD (s : List UInt8) : Nat → Nat → Nat
  | 0, p => p
  | k + 1, p =>
    match s[p]? with
    | none => p
    | some d => if 48 ≤ d.toNat ∧ d.toNat ≤ 57 then scanD s k (p + 1) else p
/-- The digits from b on, the first one known. -/
def numEnd (s : List UInt8) (b : Nat) (c : UInt8) : Nat := if c.toNat = 48 then b + 1 else scanD s (s.length + 1) (b + 1)
def numV (s : ByteArray) (a e : Nat) (z : Nat) : RR :=
  match Lib.parseIntB 64 (s.extract a e).data.toList with
  | .ok v => .ok (.int v, e, z)
  | _ => .error (a, 21)
theorem scanD_bd {s : List UInt8} : ∀ (k p : Nat), p ≤ s.length → p ≤ scanD s k p ∧ scanD s k p ≤ s.length
  | 0, p, h => by simp [scanD]; exact h
  | k + 1, p, h => by
    unfold scanD
    cases hc : s[p]? with
    | none => simp; exact h
    | some d =>
      have hlt : p < s.length := (List.getElem?_eq_some_iff.1 hc).1
      simp only
      split
      · have := scanD_bd (s := s) k (p + 1) (by omega); omega
      · omega
def ParseP (t : ByteArray) (w : World) (e : Ending) (w' : World) : Prop :=
  (match Lib.parseIntB 64 t.data.toList with
   | .ok v => e = .returned (.tuple #[.int .i64 v, .nilIface])
   | _ => ∃ v p, e = .returned (.tuple #[.int .i64 v, .iface 141 p])) ∧ Below w.heap.size w w'
theorem parse_any (t : ByteArray) (ht : t.size ≤ 1048576) (w : World) (hT : Tabs w) : Calls Tryz.prog 69 #[.string t, .int .i64 10, .int .i64 64] w (ParseP t w) := by
  obtain ⟨_, ⟨tp, p, h1⟩, tq, q, h2⟩ := hT
  rcases hp : Lib.parseIntB 64 t.data.toList with v | _ | _
  · refine (Tryz.strconv_ParseInt_10_at64_ok t (by omega) v hp w).mono ?_
    rintro e w' ⟨rfl, hw⟩
    refine ⟨by rw [hp], ?_⟩
    rcases hw with rfl | ⟨u, rfl⟩
    · exact Below.refl _ _
    · exact Lib.bytesWorld_below w 5 u
  · refine (Tryz.strconv_ParseInt_10_at64_syntax_var t (by omega) hp tp p w h1).mono ?_
    rintro e w' ⟨N, rfl, _, _, hb⟩
    exact ⟨by rw [hp]; exact ⟨_, _, rfl⟩, hb⟩
  · refine (Tryz.strconv_ParseInt_10_at64_range_var t (by omega) hp tq q w h2).mono ?_
    rintro e w' ⟨N, rfl, _, _, hb⟩
    exact ⟨by rw [hp]; exact ⟨_, _, rfl⟩, hb⟩
theorem parse_ok (t : ByteArray) (ht : t.size ≤ 1048576) (w : World) (hT : Tabs w) (v : Int) (hv : Lib.parseIntB 64 t.data.toList = .ok v) : Calls Tryz.prog 69 #[.string t, .int .i64 10, .int .i64 64] w fun e w' => e = .returned (.tuple #[.int .i64 v, .nilIface]) ∧ Below w.heap.size w w' := by
  refine (parse_any t ht w hT).mono fun e w' h => ?_
  unfold ParseP at h
  rw [hv] at h
  exact h
theorem parse_no (t : ByteArray) (ht : t.size ≤ 1048576) (w : World) (hT : Tabs w) (hv : ∀ v, Lib.parseIntB 64 t.data.toList ≠ .ok v) : Calls Tryz.prog 69 #[.string t, .int .i64 10, .int .i64 64] w fun e w' => (∃ v p, e = .returned (.tuple #[.int .i64 v, .iface 141 p])) ∧ Below w.heap.size w w' := by
  refine (parse_any t ht w hT).mono fun e w' h => ?_
  unfold ParseP at h
  rcases hp : Lib.parseIntB 64 t.data.toList with v | _ | _
  · exact absurd hp (hv v)
  · rw [hp] at h; exact h
  · rw [hp] at h; exact h
theorem numV_ok {s : ByteArray} {a e z : Nat} {v : Int} (h : Lib.parseIntB 64 (s.extract a e).data.toList = .ok v) : numV s a e z = .ok (.int v, e, z) := by unfold numV; rw [h]
theorem numV_no {s : ByteArray} {a e z : Nat} (h : ∀ v, Lib.parseIntB 64 (s.extract a e).data.toList ≠ .ok v) : numV s a e z = .error (a, 21) := by
  unfold numV
  split
  · rename_i v hv; exact absurd hv (h v)
  · rfl
theorem extract_size (s : ByteArray) (a e : Nat) (h : s.size ≤ 1048576) : (s.extract a e).size ≤ 1048576 := by simp; omega
theorem cell_step' {w w' : World} {b o : Nat} {v : Value} (h : w.cell? ⟨b, o, none⟩ = some v) (hb : Below w.heap.size w w') : w'.cell? ⟨b, o, none⟩ = some v := by
  rw [hb.cell (p := ⟨b, o, none⟩) (cell_lt h)]; exact h
theorem step3 {W w w' : World} {b j0 j1 : Nat} {v0 v1 : Value} (h : w.cell? ⟨b, j0, none⟩ = some v0 ∧ w.cell? ⟨b, j1, none⟩ = some v1 ∧ Below W.heap.size W w) (hb : Below w.heap.size w w') :
    w'.cell? ⟨b, j0, none⟩ = some v0 ∧ w'.cell? ⟨b, j1, none⟩ = some v1 ∧ Below W.heap.size W w' :=
  ⟨cell_step' h.1 hb, cell_step' h.2.1 hb, h.2.2.trans (hb.mono h.2.2.size)⟩
theorem and3 {a1 a2 b : Prop} (h : a1 ∧ a2 ∧ b) : b := h.2.2
theorem RD.below {r : Nat} {s : ByteArray} {a z : Nat} {w w' : World} (h : RD r s a z w) (hb : Below w.heap.size w w') : RD r s a z w' := by unfold RD at *; rw [hb.block r (Array.getElem?_eq_some_iff.1 h).1]; exact h
set_option maxHeartbeats 4000000 in
theorem num_pos48 (r : Nat) (s : ByteArray) (a z : Nat) (w : World) (h : RD r s a z w) (ha : a < s.size) (hs : s.size ≤ 1048576) (ht : Tabs w) (h5 : 5 ≤ w.heap.size) (hr : 5 ≤ r) (h48 : s[a].toNat = 48) :
    Calls Tryz.prog 53 #[.pointer (some ⟨r, 0, none⟩)] w (ValQ r s w (numV s a (numEnd s.data.toList a s[a]) z)) := by
  have H := Lib.hid h
  have HT := Lib.hid ht
  obtain ⟨c0, c1, c2, f1, f2⟩ := h.cells
  clear h ht
  have b45 : ((s[a].toNat : Int) == 45) = false := by rw [h48]; rfl
  have b48 : ((s[a].toNat : Int) != 48) = false := by rw [h48]; rfl
  have HEQ : Hid (numV s a (numEnd s.data.toList a s[a]) z = numV s a (a + 1) z) := by show _ = _; rw [show numEnd s.data.toList a s[a] = a + 1 from if_pos h48]
  have hlo : ¬ ((s[a].toNat : Int) < 48) := by omega
  have hhi : ¬ (57 < (s[a].toNat : Int)) := by omega
  clear h48
  go_enter Tryz.func53, Tryz.ntmps53
  go_wp2_with fail
  refine (next_byte r s a z _ H.out hs ha).mono ?_
  rintro e w1 ⟨rfl, m, rfl⟩
  go_wp2_with fail
  have HR1 := Lib.hid ((H.out.drewN m).to1 (a + 1))
  have HK1 := Lib.hid ((KB.drewN (r := r) (w := w) m).trans (KB.set 1 (.int .i64 (a + 1 : Nat))))
  go_loopw [7] (fun _ wr => Hid (RD r s (a + 1) z wr) ∧ Hid (KB r w wr)) (fun _ wr => 0)
  case atStart => exact ⟨HR1, HK1⟩
  case round =>
    obtain ⟨hrd, hkb⟩ := hrel
    obtain ⟨c0, c1, c2, f1, f2⟩ := hrd.out.cells
    have HTW := Lib.hid (HT.out.below (hkb.out.below hr h5) (Nat.le_refl 5))
    have h5 : 5 ≤ wr.heap.size := Nat.le_trans h5 hkb.out.size
    have hsub : (a : Int) + 1 - (a : Int) = 1 := by omega
    have q1 : (a : Int) ≤ (a : Int) + 1 := by omega
    have q2 : (a : Int) + 1 ≤ (s.size : Int) := by omega
    have q3 : (0 : Int) ≤ (a : Int) := by omega
    have q4 : (0 : Int) ≤ (a : Int) + 1 := by omega
    go_wp2_with fail
    have hBd : Below wr.heap.size wr wr.drew := (Below.refl _ _).drew
    have HX := Lib.hid (extract_size s a (a + 1) hs)
    cases hpar : Lib.parseIntB 64 (s.extract a (a + 1)).data.toList with
    | ok v =>
      have HP := Lib.hid hpar
      have HV := Lib.hid (numV_ok (z := z) hpar)
      clear hpar
      go_region_held3 (fun w' => w'.cell? ⟨r, 0, none⟩ = some (.string s) ∧ w'.cell? ⟨r, 1, none⟩ = some (.int .i64 (a + 1 : Nat)) ∧ Below wr.heap.size wr w')
        (first | exact ⟨c0, c1, hBd⟩ | exact step3 (w := wr.drew) ⟨c0, c1, hBd⟩ hb | (refine step3 ?_ hb; assumption) | assumption)
        (first | (go_at_call 69; ((with_reducible refine (parse_ok _ HX.out _ (HTW.out.below ?_ h5) _ HP.out).mono ?_); (first | assumption | (apply and3; assumption)); rintro e w1 ⟨rfl, hb⟩)))
      all_goals
        rename_i hS
        have hBW := hS.2.2
        clear hS
        go_wp2_with fail
        go_ret
        show ValP _ _ _ _ _ _
        rw [HEQ.out, HV.out]
        exact ⟨_, [], rfl, ⟨rfl, rfl⟩, by simp, by simp, hrd.out.below hBW, hkb.out.trans (KB.of_below hBW)⟩
    | _ =>
      have hno : ∀ v, Lib.parseIntB 64 (s.extract a (a + 1)).data.toList ≠ .ok v := fun v h => by rw [hpar] at h; cases h
      have HP := Lib.hid hno
      have HV := Lib.hid (numV_no (z := z) hno)
      clear hpar hno
      go_region_held3 (fun w' => w'.cell? ⟨r, 0, none⟩ = some (.string s) ∧ w'.cell? ⟨r, 1, none⟩ = some (.int .i64 (a + 1 : Nat)) ∧ Below wr.heap.size wr w')
        (first | exact ⟨c0, c1, hBd⟩ | exact step3 (w := wr.drew) ⟨c0, c1, hBd⟩ hb | (refine step3 ?_ hb; assumption) | assumption)
        (first | (go_at_call 69; ((with_reducible refine (parse_no _ HX.out _ (HTW.out.below ?_ h5) HP.out).mono ?_); (first | assumption | (apply and3; assumption)); rintro e w1 ⟨⟨vv, pp, rfl⟩, hb⟩)))
      all_goals
        rename_i hS
        have hBW := hS.2.2
        clear hS
        go_wp2_with fail
        refine (wrong_any r _ _ _).mono ?_
        rintro e w2 ⟨he, rfl⟩
        cases he
        go_wp2_with fail
        refine ⟨rfl, ?_⟩
        show ValP _ _ _ _ _ _
        rw [HEQ.out, HV.out]
        exact ⟨rfl, hkb.out.trans (KB.of_below hBW)⟩
end

section
open Go.RowKit
set_option maxRecDepth 100000
set_option maxHeartbeats 8000000 in
theorem num_pos (r : Nat) (s : ByteArray) (a z : Nat) (w : World) (h : RD r s a z w) (ha : a < s.size) (hs : s.size ≤ 1048576) (ht : Tabs w) (h5 : 5 ≤ w.heap.size) (hr : 5 ≤ r) (h48 : 48 < s[a].toNat ∧ s[a].toNat ≤ 57) :
    Calls Tryz.prog 53 #[.pointer (some ⟨r, 0, none⟩)] w (ValQ r s w (numV s a (numEnd s.data.toList (a) s[a]) z)) := by
  have H := Lib.hid h
  have HT := Lib.hid ht
  obtain ⟨c0, c1, c2, f1, f2⟩ := h.cells
  clear h ht
  have b45 : ((s[a].toNat : Int) == 45) = false := by simp only [beq_eq_false_iff_ne, ne_eq]; omega
  have b48 : ((s[a].toNat : Int) != 48) = true := by simp only [bne_iff_ne, ne_eq]; omega
  have HEQ0 : Hid (numV s a (scanD s.data.toList (s.size + 1) (a + 1)) z = numV s a (numEnd s.data.toList (a) s[a]) z) := by
    show _ = _
    rw [show numEnd s.data.toList (a) s[a] = scanD s.data.toList (s.data.toList.length + 1) (a + 1) from if_neg (by omega)]
    simp
  have hlo : ¬ ((s[a].toNat : Int) < 48) := by omega
  have hhi : ¬ (57 < (s[a].toNat : Int)) := by omega
  clear h48
  go_enter Tryz.func53, Tryz.ntmps53
  go_wp2_with fail
  refine (next_byte r s a z _ H.out hs ha).mono ?_
  rintro e w1 ⟨rfl, m, rfl⟩
  go_wp2_with fail
  have HR1 := Lib.hid ((H.out.drewN m).to1 (a + 1))
  have HK1 := Lib.hid ((KB.drewN (r := r) (w := w) m).trans (KB.set 1 (.int .i64 (a + 1 : Nat))))
  go_loopw [7] (fun _ wr => ∃ (k p : Nat), a + 1 ≤ p ∧ p ≤ s.size ∧ s.size < p + k ∧ Hid (RD r s p z wr) ∧ Hid (KB r w wr) ∧ Hid (numV s a (scanD s.data.toList k p) z = numV s a (numEnd s.data.toList (a) s[a]) z)) (fun _ wr => s.size + 1 - rdAt r wr)
  case atStart => exact ⟨s.size + 1, a + 1, by omega, by omega, by omega, HR1, HK1, HEQ0⟩
  case round =>
    obtain ⟨k, p, hp0, hp, hk, hrd, hkb, heq⟩ := hrel
    obtain ⟨k, rfl⟩ : ∃ j, k = j + 1 := ⟨k - 1, by omega⟩
    obtain ⟨c0, c1, c2, f1, f2⟩ := hrd.out.cells
    have hpI : (a : Int) ≤ (p : Int) := by omega
    have hpS : (p : Int) ≤ (s.size : Int) := by omega
    by_cases hend : p = s.size
    · have hnone : s.data.toList[p]? = none := List.getElem?_eq_none (by simp; omega)
      have HEQ : Hid (numV s a (numEnd s.data.toList (a) s[a]) z = numV s a p z) := by
        show _ = _
        rw [← heq.out, scanD, hnone]
      have HE1 : Hid (RD r s s.size z wr) := by rw [← hend]; exact hrd
      have HEN := Lib.hid hend
      clear hnone hend
      go_wp2_with fail
      refine (next_end r s z _ HE1.out hs).mono ?_
      rintro e w1 ⟨rfl, m1, rfl⟩
      have hrd := Lib.hid (hrd.out.drewN m1)
      have hkb := Lib.hid (hkb.out.trans (KB.drewN m1))
      have HTW := Lib.hid (HT.out.below (hkb.out.below hr h5) (Nat.le_refl 5))
      have h5 : 5 ≤ (wr.drewN m1).heap.size := Nat.le_trans h5 hkb.out.size
      obtain ⟨c0, c1, c2, f1, f2⟩ := hrd.out.cells
      obtain ⟨w0, hw0⟩ : ∃ w0, w0 = wr.drewN m1 := ⟨_, rfl⟩
      rw [← hw0] at hrd hkb HTW h5 c0 c1 c2 f1 f2 ⊢
      clear hw0
      go_wp2_with fail
      have hBd : Below w0.heap.size w0 w0.drew := (Below.refl _ _).drew
      have HX := Lib.hid (extract_size s a (p) hs)
      cases hpar : Lib.parseIntB 64 (s.extract a (p)).data.toList with
      | ok v =>
        have HP := Lib.hid hpar
        have HV := Lib.hid (numV_ok (z := z) hpar)
        clear hpar
        go_region_held3 (fun w' => w'.cell? ⟨r, 0, none⟩ = some (.string s) ∧ w'.cell? ⟨r, 1, none⟩ = some (.int .i64 (p : Nat)) ∧ Below w0.heap.size w0 w')
          (first | exact ⟨c0, c1, hBd⟩ | exact step3 (w := w0.drew) ⟨c0, c1, hBd⟩ hb | (refine step3 ?_ hb; assumption) | assumption)
          (first | (go_at_call 69; ((with_reducible refine (parse_ok _ HX.out _ (HTW.out.below ?_ h5) _ HP.out).mono ?_); (first | assumption | (apply and3; assumption)); rintro e w1 ⟨rfl, hb⟩)))
        all_goals
          rename_i hS
          have hBW := hS.2.2
          clear hS
          go_wp2_with fail
          go_ret
          show ValP _ _ _ _ _ _
          rw [HEQ.out, HV.out]
          exact ⟨_, [], rfl, ⟨rfl, rfl⟩, by simp, by simp, hrd.out.below hBW, hkb.out.trans (KB.of_below hBW)⟩
      | _ =>
        have hno : ∀ v, Lib.parseIntB 64 (s.extract a (p)).data.toList ≠ .ok v := fun v h => by rw [hpar] at h; cases h
        have HP := Lib.hid hno
        have HV := Lib.hid (numV_no (z := z) hno)
        clear hpar hno
        go_region_held3 (fun w' => w'.cell? ⟨r, 0, none⟩ = some (.string s) ∧ w'.cell? ⟨r, 1, none⟩ = some (.int .i64 (p : Nat)) ∧ Below w0.heap.size w0 w')
          (first | exact ⟨c0, c1, hBd⟩ | exact step3 (w := w0.drew) ⟨c0, c1, hBd⟩ hb | (refine step3 ?_ hb; assumption) | assumption)
          (first | (go_at_call 69; ((with_reducible refine (parse_no _ HX.out _ (HTW.out.below ?_ h5) HP.out).mono ?_); (first | assumption | (apply and3; assumption)); rintro e w1 ⟨⟨vv, pp, rfl⟩, hb⟩)))
        all_goals
          rename_i hS
          have hBW := hS.2.2
          clear hS
          go_wp2_with fail
          refine (wrong_any r _ _ _).mono ?_
          rintro e w2 ⟨he, rfl⟩
          cases he
          go_wp2_with fail
          refine ⟨rfl, ?_⟩
          show ValP _ _ _ _ _ _
          rw [HEQ.out, HV.out]
          exact ⟨rfl, hkb.out.trans (KB.of_below hBW)⟩
    · have hlt : p < s.size := by omega
      have hsome : s.data.toList[p]? = some s[p] := by rw [List.getElem?_eq_getElem (by simpa using hlt)]; rfl
      by_cases hdg : 48 ≤ s[p].toNat ∧ s[p].toNat ≤ 57
      · have hstep : scanD s.data.toList (k + 1) p = scanD s.data.toList k (p + 1) := by rw [scanD, hsome]; simp only; rw [if_pos hdg]
        rw [hstep] at heq
        obtain ⟨g0, g1⟩ := hdg
        have n48 : ¬ ((s[p].toNat : Int) < 48) := by omega
        have n57 : ¬ (57 < (s[p].toNat : Int)) := by omega
        clear hstep hsome
        go_wp2_with fail
        refine (next_byte r s p z _ hrd.out hs hlt).mono ?_
        rintro e w1 ⟨rfl, m1, rfl⟩
        go_wp2_with fail
        go_roundw
        case rel => exact ⟨k, p + 1, by omega, by omega, by omega, Lib.hid ((hrd.out.drewN m1).to1 (p + 1)), Lib.hid ((hkb.out.trans (KB.drewN m1)).trans (KB.set 1 _)), heq⟩
        case measure => exact lt_measure hrd.out ((hrd.out.drewN m1).to1 (p + 1)) (by omega) (by omega)
      · have HEQ : Hid (numV s a (numEnd s.data.toList (a) s[a]) z = numV s a p z) := by
          show _ = _
          rw [← heq.out, scanD, hsome]
          simp only
          rw [if_neg hdg]
        have hdg' : s[p].toNat < 48 ∨ 57 < s[p].toNat := by omega
        clear hdg hsome
        rcases hdg' with hdg | hdg
        · have n48 : (s[p].toNat : Int) < 48 := by omega
          go_wp2_with fail
          refine (next_byte r s p z _ hrd.out hs hlt).mono ?_
          rintro e w1 ⟨rfl, m1, rfl⟩
          have hrd := Lib.hid (hrd.out.drewN m1)
          have hkb := Lib.hid (hkb.out.trans (KB.drewN m1))
          have HTW := Lib.hid (HT.out.below (hkb.out.below hr h5) (Nat.le_refl 5))
          have h5 : 5 ≤ (wr.drewN m1).heap.size := Nat.le_trans h5 hkb.out.size
          obtain ⟨c0, c1, c2, f1, f2⟩ := hrd.out.cells
          obtain ⟨w0, hw0⟩ : ∃ w0, w0 = wr.drewN m1 := ⟨_, rfl⟩
          rw [← hw0] at hrd hkb HTW h5 c0 c1 c2 f1 f2 ⊢
          clear hw0
          go_wp2_with fail
          have hBd : Below w0.heap.size w0 w0.drew := (Below.refl _ _).drew
          have HX := Lib.hid (extract_size s a (p) hs)
          cases hpar : Lib.parseIntB 64 (s.extract a (p)).data.toList with
          | ok v =>
            have HP := Lib.hid hpar
            have HV := Lib.hid (numV_ok (z := z) hpar)
            clear hpar
            go_region_held3 (fun w' => w'.cell? ⟨r, 0, none⟩ = some (.string s) ∧ w'.cell? ⟨r, 1, none⟩ = some (.int .i64 (p : Nat)) ∧ Below w0.heap.size w0 w')
              (first | exact ⟨c0, c1, hBd⟩ | exact step3 (w := w0.drew) ⟨c0, c1, hBd⟩ hb | (refine step3 ?_ hb; assumption) | assumption)
              (first | (go_at_call 69; ((with_reducible refine (parse_ok _ HX.out _ (HTW.out.below ?_ h5) _ HP.out).mono ?_); (first | assumption | (apply and3; assumption)); rintro e w1 ⟨rfl, hb⟩)))
            all_goals
              rename_i hS
              have hBW := hS.2.2
              clear hS
              go_wp2_with fail
              go_ret
              show ValP _ _ _ _ _ _
              rw [HEQ.out, HV.out]
              exact ⟨_, [], rfl, ⟨rfl, rfl⟩, by simp, by simp, hrd.out.below hBW, hkb.out.trans (KB.of_below hBW)⟩
          | _ =>
            have hno : ∀ v, Lib.parseIntB 64 (s.extract a (p)).data.toList ≠ .ok v := fun v h => by rw [hpar] at h; cases h
            have HP := Lib.hid hno
            have HV := Lib.hid (numV_no (z := z) hno)
            clear hpar hno
            go_region_held3 (fun w' => w'.cell? ⟨r, 0, none⟩ = some (.string s) ∧ w'.cell? ⟨r, 1, none⟩ = some (.int .i64 (p : Nat)) ∧ Below w0.heap.size w0 w')
              (first | exact ⟨c0, c1, hBd⟩ | exact step3 (w := w0.drew) ⟨c0, c1, hBd⟩ hb | (refine step3 ?_ hb; assumption) | assumption)
              (first | (go_at_call 69; ((with_reducible refine (parse_no _ HX.out _ (HTW.out.below ?_ h5) HP.out).mono ?_); (first | assumption | (apply and3; assumption)); rintro e w1 ⟨⟨vv, pp, rfl⟩, hb⟩)))
            all_goals
              rename_i hS
              have hBW := hS.2.2
              clear hS
              go_wp2_with fail
              refine (wrong_any r _ _ _).mono ?_
              rintro e w2 ⟨he, rfl⟩
              cases he
              go_wp2_with fail
              refine ⟨rfl, ?_⟩
              show ValP _ _ _ _ _ _
              rw [HEQ.out, HV.out]
              exact ⟨rfl, hkb.out.trans (KB.of_below hBW)⟩
        · have n48 : ¬ ((s[p].toNat : Int) < 48) := by omega
          have n57 : 57 < (s[p].toNat : Int) := by omega
          go_wp2_with fail
          refine (next_byte r s p z _ hrd.out hs hlt).mono ?_
          rintro e w1 ⟨rfl, m1, rfl⟩
          have hrd := Lib.hid (hrd.out.drewN m1)
          have hkb := Lib.hid (hkb.out.trans (KB.drewN m1))
          have HTW := Lib.hid (HT.out.below (hkb.out.below hr h5) (Nat.le_refl 5))
          have h5 : 5 ≤ (wr.drewN m1).heap.size := Nat.le_trans h5 hkb.out.size
          obtain ⟨c0, c1, c2, f1, f2⟩ := hrd.out.cells
          obtain ⟨w0, hw0⟩ : ∃ w0, w0 = wr.drewN m1 := ⟨_, rfl⟩
          rw [← hw0] at hrd hkb HTW h5 c0 c1 c2 f1 f2 ⊢
          clear hw0
          go_wp2_with fail
          have hBd : Below w0.heap.size w0 w0.drew := (Below.refl _ _).drew
          have HX := Lib.hid (extract_size s a (p) hs)
          cases hpar : Lib.parseIntB 64 (s.extract a (p)).data.toList with
          | ok v =>
            have HP := Lib.hid hpar
            have HV := Lib.hid (numV_ok (z := z) hpar)
            clear hpar
            go_region_held3 (fun w' => w'.cell? ⟨r, 0, none⟩ = some (.string s) ∧ w'.cell? ⟨r, 1, none⟩ = some (.int .i64 (p : Nat)) ∧ Below w0.heap.size w0 w')
              (first | exact ⟨c0, c1, hBd⟩ | exact step3 (w := w0.drew) ⟨c0, c1, hBd⟩ hb | (refine step3 ?_ hb; assumption) | assumption)
              (first | (go_at_call 69; ((with_reducible refine (parse_ok _ HX.out _ (HTW.out.below ?_ h5) _ HP.out).mono ?_); (first | assumption | (apply and3; assumption)); rintro e w1 ⟨rfl, hb⟩)))
            all_goals
              rename_i hS
              have hBW := hS.2.2
              clear hS
              go_wp2_with fail
              go_ret
              show ValP _ _ _ _ _ _
              rw [HEQ.out, HV.out]
              exact ⟨_, [], rfl, ⟨rfl, rfl⟩, by simp, by simp, hrd.out.below hBW, hkb.out.trans (KB.of_below hBW)⟩
          | _ =>
            have hno : ∀ v, Lib.parseIntB 64 (s.extract a (p)).data.toList ≠ .ok v := fun v h => by rw [hpar] at h; cases h
            have HP := Lib.hid hno
            have HV := Lib.hid (numV_no (z := z) hno)
            clear hpar hno
            go_region_held3 (fun w' => w'.cell? ⟨r, 0, none⟩ = some (.string s) ∧ w'.cell? ⟨r, 1, none⟩ = some (.int .i64 (p : Nat)) ∧ Below w0.heap.size w0 w')
              (first | exact ⟨c0, c1, hBd⟩ | exact step3 (w := w0.drew) ⟨c0, c1, hBd⟩ hb | (refine step3 ?_ hb; assumption) | assumption)
              (first | (go_at_call 69; ((with_reducible refine (parse_no _ HX.out _ (HTW.out.below ?_ h5) HP.out).mono ?_); (first | assumption | (apply and3; assumption)); rintro e w1 ⟨⟨vv, pp, rfl⟩, hb⟩)))
            all_goals
              rename_i hS
              have hBW := hS.2.2
              clear hS
              go_wp2_with fail
              refine (wrong_any r _ _ _).mono ?_
              rintro e w2 ⟨he, rfl⟩
              cases he
              go_wp2_with fail
              refine ⟨rfl, ?_⟩
              show ValP _ _ _ _ _ _
              rw [HEQ.out, HV.out]
              exact ⟨rfl, hkb.out.trans (KB.of_below hBW)⟩
set_option maxHeartbeats 8000000 in
theorem num_neg (r : Nat) (s : ByteArray) (a z : Nat) (w : World) (h : RD r s a z w) (ha : a + 1 < s.size) (hs : s.size ≤ 1048576) (ht : Tabs w) (h5 : 5 ≤ w.heap.size) (hr : 5 ≤ r) (h45 : s[a].toNat = 45) (h48 : 49 ≤ s[a + 1].toNat ∧ s[a + 1].toNat ≤ 57) :
    Calls Tryz.prog 53 #[.pointer (some ⟨r, 0, none⟩)] w (ValQ r s w (numV s a (numEnd s.data.toList (a + 1) s[a + 1]) z)) := by
  have H := Lib.hid h
  have HT := Lib.hid ht
  obtain ⟨c0, c1, c2, f1, f2⟩ := h.cells
  clear h ht
  have b45 : ((s[a].toNat : Int) == 45) = true := by rw [h45]; rfl
  have b48 : ((s[a + 1].toNat : Int) != 48) = true := by simp only [bne_iff_ne, ne_eq]; omega
  have HEQ0 : Hid (numV s a (scanD s.data.toList (s.size + 1) (a + 1 + 1)) z = numV s a (numEnd s.data.toList (a + 1) s[a + 1]) z) := by
    show _ = _
    rw [show numEnd s.data.toList (a + 1) s[a + 1] = scanD s.data.toList (s.data.toList.length + 1) (a + 1 + 1) from if_neg (by omega)]
    simp
  have hlo : ¬ ((s[a + 1].toNat : Int) < 49) := by omega
  have hhi : ¬ (57 < (s[a + 1].toNat : Int)) := by omega
  have ha0 : a < s.size := by omega
  have H45 := Lib.hid h45
  clear h48 h45
  go_enter Tryz.func53, Tryz.ntmps53
  go_wp2_with fail
  refine (next_byte r s a z _ H.out hs ha0).mono ?_
  rintro e w1 ⟨rfl, m, rfl⟩
  have HR0 := Lib.hid ((H.out.drewN m).to1 (a + 1))
  go_wp2_with fail
  refine (next_byte r s (a + 1) z _ HR0.out hs ha).mono ?_
  rintro e w1 ⟨rfl, m0, rfl⟩
  obtain ⟨d0, d1, d2, g1, g2⟩ := (HR0.out.drewN m0).cells
  have HR1 := Lib.hid ((HR0.out.drewN m0).to1 (a + 1 + 1))
  have HK1 := Lib.hid ((((KB.drewN (r := r) (w := w) m).trans (KB.set 1 (.int .i64 (a + 1 : Nat)))).trans (KB.drewN m0)).trans (KB.set 1 (.int .i64 (a + 1 + 1 : Nat))))
  go_wp2_with fail
  go_loopw [7] (fun _ wr => ∃ (k p : Nat), a + 1 + 1 ≤ p ∧ p ≤ s.size ∧ s.size < p + k ∧ Hid (RD r s p z wr) ∧ Hid (KB r w wr) ∧ Hid (numV s a (scanD s.data.toList k p) z = numV s a (numEnd s.data.toList (a + 1) s[a + 1]) z)) (fun _ wr => s.size + 1 - rdAt r wr)
  case atStart => exact ⟨s.size + 1, a + 1 + 1, by omega, by omega, by omega, HR1, HK1, HEQ0⟩
  case round =>
    obtain ⟨k, p, hp0, hp, hk, hrd, hkb, heq⟩ := hrel
    obtain ⟨k, rfl⟩ : ∃ j, k = j + 1 := ⟨k - 1, by omega⟩
    obtain ⟨c0, c1, c2, f1, f2⟩ := hrd.out.cells
    have hpI : (a : Int) ≤ (p : Int) := by omega
    have hpS : (p : Int) ≤ (s.size : Int) := by omega
    by_cases hend : p = s.size
    · have hnone : s.data.toList[p]? = none := List.getElem?_eq_none (by simp; omega)
      have HEQ : Hid (numV s a (numEnd s.data.toList (a + 1) s[a + 1]) z = numV s a p z) := by
        show _ = _
        rw [← heq.out, scanD, hnone]
      have HE1 : Hid (RD r s s.size z wr) := by rw [← hend]; exact hrd
      have HEN := Lib.hid hend
      clear hnone hend
      go_wp2_with fail
      refine (next_end r s z _ HE1.out hs).mono ?_
      rintro e w1 ⟨rfl, m1, rfl⟩
      have hrd := Lib.hid (hrd.out.drewN m1)
      have hkb := Lib.hid (hkb.out.trans (KB.drewN m1))
      have HTW := Lib.hid (HT.out.below (hkb.out.below hr h5) (Nat.le_refl 5))
      have h5 : 5 ≤ (wr.drewN m1).heap.size := Nat.le_trans h5 hkb.out.size
      obtain ⟨c0, c1, c2, f1, f2⟩ := hrd.out.cells
      obtain ⟨w0, hw0⟩ : ∃ w0, w0 = wr.drewN m1 := ⟨_, rfl⟩
      rw [← hw0] at hrd hkb HTW h5 c0 c1 c2 f1 f2 ⊢
      clear hw0
      go_wp2_with fail
      have hBd : Below w0.heap.size w0 w0.drew := (Below.refl _ _).drew
      have HX := Lib.hid (extract_size s a (p) hs)
      cases hpar : Lib.parseIntB 64 (s.extract a (p)).data.toList with
      | ok v =>
        have HP := Lib.hid hpar
        have HV := Lib.hid (numV_ok (z := z) hpar)
        clear hpar
        go_region_held3 (fun w' => w'.cell? ⟨r, 0, none⟩ = some (.string s) ∧ w'.cell? ⟨r, 1, none⟩ = some (.int .i64 (p : Nat)) ∧ Below w0.heap.size w0 w')
          (first | exact ⟨c0, c1, hBd⟩ | exact step3 (w := w0.drew) ⟨c0, c1, hBd⟩ hb | (refine step3 ?_ hb; assumption) | assumption)
          (first | (go_at_call 69; ((with_reducible refine (parse_ok _ HX.out _ (HTW.out.below ?_ h5) _ HP.out).mono ?_); (first | assumption | (apply and3; assumption)); rintro e w1 ⟨rfl, hb⟩)))
        all_goals
          rename_i hS
          have hBW := hS.2.2
          clear hS
          go_wp2_with fail
          go_ret
          show ValP _ _ _ _ _ _
          rw [HEQ.out, HV.out]
          exact ⟨_, [], rfl, ⟨rfl, rfl⟩, by simp, by simp, hrd.out.below hBW, hkb.out.trans (KB.of_below hBW)⟩
      | _ =>
        have hno : ∀ v, Lib.parseIntB 64 (s.extract a (p)).data.toList ≠ .ok v := fun v h => by rw [hpar] at h; cases h
        have HP := Lib.hid hno
        have HV := Lib.hid (numV_no (z := z) hno)
        clear hpar hno
        go_region_held3 (fun w' => w'.cell? ⟨r, 0, none⟩ = some (.string s) ∧ w'.cell? ⟨r, 1, none⟩ = some (.int .i64 (p : Nat)) ∧ Below w0.heap.size w0 w')
          (first | exact ⟨c0, c1, hBd⟩ | exact step3 (w := w0.drew) ⟨c0, c1, hBd⟩ hb | (refine step3 ?_ hb; assumption) | assumption)
          (first | (go_at_call 69; ((with_reducible refine (parse_no _ HX.out _ (HTW.out.below ?_ h5) HP.out).mono ?_); (first | assumption | (apply and3; assumption)); rintro e w1 ⟨⟨vv, pp, rfl⟩, hb⟩)))
        all_goals
          rename_i hS
          have hBW := hS.2.2
          clear hS
          go_wp2_with fail
          refine (wrong_any r _ _ _).mono ?_
          rintro e w2 ⟨he, rfl⟩
          cases he
          go_wp2_with fail
          refine ⟨rfl, ?_⟩
          show ValP _ _ _ _ _ _
          rw [HEQ.out, HV.out]
          exact ⟨rfl, hkb.out.trans (KB.of_below hBW)⟩
    · have hlt : p < s.size := by omega
      have hsome : s.data.toList[p]? = some s[p] := by rw [List.getElem?_eq_getElem (by simpa using hlt)]; rfl
      by_cases hdg : 48 ≤ s[p].toNat ∧ s[p].toNat ≤ 57
      · have hstep : scanD s.data.toList (k + 1) p = scanD s.data.toList k (p + 1) := by rw [scanD, hsome]; simp only; rw [if_pos hdg]
        rw [hstep] at heq
        obtain ⟨g0, g1⟩ := hdg
        have n48 : ¬ ((s[p].toNat : Int) < 48) := by omega
        have n57 : ¬ (57 < (s[p].toNat : Int)) := by omega
        clear hstep hsome
        go_wp2_with fail
        refine (next_byte r s p z _ hrd.out hs hlt).mono ?_
        rintro e w1 ⟨rfl, m1, rfl⟩
        go_wp2_with fail
        go_roundw
        case rel => exact ⟨k, p + 1, by omega, by omega, by omega, Lib.hid ((hrd.out.drewN m1).to1 (p + 1)), Lib.hid ((hkb.out.trans (KB.drewN m1)).trans (KB.set 1 _)), heq⟩
        case measure => exact lt_measure hrd.out ((hrd.out.drewN m1).to1 (p + 1)) (by omega) (by omega)
      · have HEQ : Hid (numV s a (numEnd s.data.toList (a + 1) s[a + 1]) z = numV s a p z) := by
          show _ = _
          rw [← heq.out, scanD, hsome]
          simp only
          rw [if_neg hdg]
        have hdg' : s[p].toNat < 48 ∨ 57 < s[p].toNat := by omega
        clear hdg hsome
        rcases hdg' with hdg | hdg
        · have n48 : (s[p].toNat : Int) < 48 := by omega
          go_wp2_with fail
          refine (next_byte r s p z _ hrd.out hs hlt).mono ?_
          rintro e w1 ⟨rfl, m1, rfl⟩
          have hrd := Lib.hid (hrd.out.drewN m1)
          have hkb := Lib.hid (hkb.out.trans (KB.drewN m1))
          have HTW := Lib.hid (HT.out.below (hkb.out.below hr h5) (Nat.le_refl 5))
          have h5 : 5 ≤ (wr.drewN m1).heap.size := Nat.le_trans h5 hkb.out.size
          obtain ⟨c0, c1, c2, f1, f2⟩ := hrd.out.cells
          obtain ⟨w0, hw0⟩ : ∃ w0, w0 = wr.drewN m1 := ⟨_, rfl⟩
          rw [← hw0] at hrd hkb HTW h5 c0 c1 c2 f1 f2 ⊢
          clear hw0
          go_wp2_with fail
          have hBd : Below w0.heap.size w0 w0.drew := (Below.refl _ _).drew
          have HX := Lib.hid (extract_size s a (p) hs)
          cases hpar : Lib.parseIntB 64 (s.extract a (p)).data.toList with
          | ok v =>
            have HP := Lib.hid hpar
            have HV := Lib.hid (numV_ok (z := z) hpar)
            clear hpar
            go_region_held3 (fun w' => w'.cell? ⟨r, 0, none⟩ = some (.string s) ∧ w'.cell? ⟨r, 1, none⟩ = some (.int .i64 (p : Nat)) ∧ Below w0.heap.size w0 w')
              (first | exact ⟨c0, c1, hBd⟩ | exact step3 (w := w0.drew) ⟨c0, c1, hBd⟩ hb | (refine step3 ?_ hb; assumption) | assumption)
              (first | (go_at_call 69; ((with_reducible refine (parse_ok _ HX.out _ (HTW.out.below ?_ h5) _ HP.out).mono ?_); (first | assumption | (apply and3; assumption)); rintro e w1 ⟨rfl, hb⟩)))
            all_goals
              rename_i hS
              have hBW := hS.2.2
              clear hS
              go_wp2_with fail
              go_ret
              show ValP _ _ _ _ _ _
              rw [HEQ.out, HV.out]
              exact ⟨_, [], rfl, ⟨rfl, rfl⟩, by simp, by simp, hrd.out.below hBW, hkb.out.trans (KB.of_below hBW)⟩
          | _ =>
            have hno : ∀ v, Lib.parseIntB 64 (s.extract a (p)).data.toList ≠ .ok v := fun v h => by rw [hpar] at h; cases h
            have HP := Lib.hid hno
            have HV := Lib.hid (numV_no (z := z) hno)
            clear hpar hno
            go_region_held3 (fun w' => w'.cell? ⟨r, 0, none⟩ = some (.string s) ∧ w'.cell? ⟨r, 1, none⟩ = some (.int .i64 (p : Nat)) ∧ Below w0.heap.size w0 w')
              (first | exact ⟨c0, c1, hBd⟩ | exact step3 (w := w0.drew) ⟨c0, c1, hBd⟩ hb | (refine step3 ?_ hb; assumption) | assumption)
              (first | (go_at_call 69; ((with_reducible refine (parse_no _ HX.out _ (HTW.out.below ?_ h5) HP.out).mono ?_); (first | assumption | (apply and3; assumption)); rintro e w1 ⟨⟨vv, pp, rfl⟩, hb⟩)))
            all_goals
              rename_i hS
              have hBW := hS.2.2
              clear hS
              go_wp2_with fail
              refine (wrong_any r _ _ _).mono ?_
              rintro e w2 ⟨he, rfl⟩
              cases he
              go_wp2_with fail
              refine ⟨rfl, ?_⟩
              show ValP _ _ _ _ _ _
              rw [HEQ.out, HV.out]
              exact ⟨rfl, hkb.out.trans (KB.of_below hBW)⟩
        · have n48 : ¬ ((s[p].toNat : Int) < 48) := by omega
          have n57 : 57 < (s[p].toNat : Int) := by omega
          go_wp2_with fail
          refine (next_byte r s p z _ hrd.out hs hlt).mono ?_
          rintro e w1 ⟨rfl, m1, rfl⟩
          have hrd := Lib.hid (hrd.out.drewN m1)
          have hkb := Lib.hid (hkb.out.trans (KB.drewN m1))
          have HTW := Lib.hid (HT.out.below (hkb.out.below hr h5) (Nat.le_refl 5))
          have h5 : 5 ≤ (wr.drewN m1).heap.size := Nat.le_trans h5 hkb.out.size
          obtain ⟨c0, c1, c2, f1, f2⟩ := hrd.out.cells
          obtain ⟨w0, hw0⟩ : ∃ w0, w0 = wr.drewN m1 := ⟨_, rfl⟩
          rw [← hw0] at hrd hkb HTW h5 c0 c1 c2 f1 f2 ⊢
          clear hw0
          go_wp2_with fail
          have hBd : Below w0.heap.size w0 w0.drew := (Below.refl _ _).drew
          have HX := Lib.hid (extract_size s a (p) hs)
          cases hpar : Lib.parseIntB 64 (s.extract a (p)).data.toList with
          | ok v =>
            have HP := Lib.hid hpar
            have HV := Lib.hid (numV_ok (z := z) hpar)
            clear hpar
            go_region_held3 (fun w' => w'.cell? ⟨r, 0, none⟩ = some (.string s) ∧ w'.cell? ⟨r, 1, none⟩ = some (.int .i64 (p : Nat)) ∧ Below w0.heap.size w0 w')
              (first | exact ⟨c0, c1, hBd⟩ | exact step3 (w := w0.drew) ⟨c0, c1, hBd⟩ hb | (refine step3 ?_ hb; assumption) | assumption)
              (first | (go_at_call 69; ((with_reducible refine (parse_ok _ HX.out _ (HTW.out.below ?_ h5) _ HP.out).mono ?_); (first | assumption | (apply and3; assumption)); rintro e w1 ⟨rfl, hb⟩)))
            all_goals
              rename_i hS
              have hBW := hS.2.2
              clear hS
              go_wp2_with fail
              go_ret
              show ValP _ _ _ _ _ _
              rw [HEQ.out, HV.out]
              exact ⟨_, [], rfl, ⟨rfl, rfl⟩, by simp, by simp, hrd.out.below hBW, hkb.out.trans (KB.of_below hBW)⟩
          | _ =>
            have hno : ∀ v, Lib.parseIntB 64 (s.extract a (p)).data.toList ≠ .ok v := fun v h => by rw [hpar] at h; cases h
            have HP := Lib.hid hno
            have HV := Lib.hid (numV_no (z := z) hno)
            clear hpar hno
            go_region_held3 (fun w' => w'.cell? ⟨r, 0, none⟩ = some (.string s) ∧ w'.cell? ⟨r, 1, none⟩ = some (.int .i64 (p : Nat)) ∧ Below w0.heap.size w0 w')
              (first | exact ⟨c0, c1, hBd⟩ | exact step3 (w := w0.drew) ⟨c0, c1, hBd⟩ hb | (refine step3 ?_ hb; assumption) | assumption)
              (first | (go_at_call 69; ((with_reducible refine (parse_no _ HX.out _ (HTW.out.below ?_ h5) HP.out).mono ?_); (first | assumption | (apply and3; assumption)); rintro e w1 ⟨⟨vv, pp, rfl⟩, hb⟩)))
            all_goals
              rename_i hS
              have hBW := hS.2.2
              clear hS
              go_wp2_with fail
              refine (wrong_any r _ _ _).mono ?_
              rintro e w2 ⟨he, rfl⟩
              cases he
              go_wp2_with fail
              refine ⟨rfl, ?_⟩
              show ValP _ _ _ _ _ _
              rw [HEQ.out, HV.out]
              exact ⟨rfl, hkb.out.trans (KB.of_below hBW)⟩
end

section
open Go.RowKit
set_option maxRecDepth 100000
def numR (s : ByteArray) (a z : Nat) : RR :=
  match s.data.toList[a]? with
  | none => .error (a, 5)
  | some c =>
    if c.toNat = 45 then
      match s.data.toList[a + 1]? with
      | none => .error (a + 1, 5)
      | some d => if 49 ≤ d.toNat ∧ d.toNat ≤ 57 then numV s a (numEnd s.data.toList (a + 1) d) z else .error (a + 1, 5)
    else if 48 ≤ c.toNat ∧ c.toNat ≤ 57 then numV s a (numEnd s.data.toList a c) z else .error (a, 5)
theorem at_some {s : ByteArray} {a : Nat} (h : a < s.size) : s.data.toList[a]? = some s[a] := by rw [List.getElem?_eq_getElem (by simpa using h)]; rfl
theorem at_none {s : ByteArray} {a : Nat} (h : a = s.size) : s.data.toList[a]? = none := List.getElem?_eq_none (by simp; omega)
set_option maxHeartbeats 4000000 in
theorem number_any (r : Nat) (s : ByteArray) (a z : Nat) (w : World) (h : RD r s a z w) (ha : a ≤ s.size) (hs : s.size ≤ 1048576) (ht : Tabs w) (h5 : 5 ≤ w.heap.size) (hr : 5 ≤ r) :
    Calls Tryz.prog 53 #[.pointer (some ⟨r, 0, none⟩)] w (ValQ r s w (numR s a z)) := by
  by_cases hend : a = s.size
  · have he : numR s a z = .error (a, 5) := by unfold numR; rw [at_none hend]
    have HE := Lib.hid he
    have H := Lib.hid h
    have H' : Hid (RD r s s.size z w) := by rw [← hend]; exact H
    obtain ⟨c0, c1, c2, f1, f2⟩ := h.cells
    have HEN := Lib.hid hend
    clear he h hend ht
    go_enter Tryz.func53, Tryz.ntmps53
    go_wp2_with fail
    refine (next_end r s z _ H'.out hs).mono ?_
    rintro e w1 ⟨rfl, m, rfl⟩
    go_wp2_with fail
    refine (wrong_any r _ _ _).mono ?_
    rintro e w1 ⟨he, rfl⟩
    cases he
    go_wp2_with fail
    refine ⟨rfl, ?_⟩
    show ValP _ _ _ _ _ _
    rw [HE.out]
    exact ⟨rfl, KB.drewN m⟩
  · have hlt : a < s.size := by omega
    by_cases h45 : s[a].toNat = 45
    · by_cases hend1 : a + 1 = s.size
      · have he : numR s a z = .error (a + 1, 5) := by unfold numR; rw [at_some hlt]; simp only; rw [if_pos h45, at_none hend1]
        have HE := Lib.hid he
        have H := Lib.hid h
        obtain ⟨c0, c1, c2, f1, f2⟩ := h.cells
        have HEN := Lib.hid hend1
        have b45 : ((s[a].toNat : Int) == 45) = true := by rw [h45]; rfl
        have H45 := Lib.hid h45
        clear he h hend ht h45
        go_enter Tryz.func53, Tryz.ntmps53
        go_wp2_with fail
        refine (next_byte r s a z _ H.out hs hlt).mono ?_
        rintro e w1 ⟨rfl, m, rfl⟩
        have HR0 := Lib.hid ((H.out.drewN m).to1 (a + 1))
        have HR1 : Hid (RD r s s.size z ((w.drewN m).setCell ⟨r, 1, none⟩ (.int .i64 (a + 1 : Nat)))) := by rw [← HEN.out]; exact HR0
        clear hend1
        go_wp2_with fail
        refine (next_end r s z _ HR1.out hs).mono ?_
        rintro e w1 ⟨rfl, m0, rfl⟩
        obtain ⟨d0, d1, d2, g1, g2⟩ := (HR0.out.drewN m0).cells
        go_wp2_with fail
        refine (wrong_any r _ _ _).mono ?_
        rintro e w1 ⟨he, rfl⟩
        cases he
        go_wp2_with fail
        refine ⟨rfl, ?_⟩
        show ValP _ _ _ _ _ _
        rw [HE.out]
        exact ⟨rfl, ((KB.drewN m).trans (KB.set 1 _)).trans (KB.drewN m0)⟩
      · have hlt1 : a + 1 < s.size := by omega
        by_cases hd : 49 ≤ s[a + 1].toNat ∧ s[a + 1].toNat ≤ 57
        · have he : numR s a z = numV s a (numEnd s.data.toList (a + 1) s[a + 1]) z := by unfold numR; rw [at_some hlt]; simp only; rw [if_pos h45, at_some hlt1]; simp only; rw [if_pos hd]
          rw [he]
          exact num_neg r s a z w h hlt1 hs ht h5 hr h45 hd
        · have he : numR s a z = .error (a + 1, 5) := by unfold numR; rw [at_some hlt]; simp only; rw [if_pos h45, at_some hlt1]; simp only; rw [if_neg hd]
          have HE := Lib.hid he
          have H := Lib.hid h
          obtain ⟨c0, c1, c2, f1, f2⟩ := h.cells
          have b45 : ((s[a].toNat : Int) == 45) = true := by rw [h45]; rfl
          have H45 := Lib.hid h45
          have hd' : s[a + 1].toNat < 49 ∨ 57 < s[a + 1].toNat := by omega
          clear he h hend ht h45 hd
          rcases hd' with hd | hd
          · have b49 : (s[a + 1].toNat : Int) < 49 := by omega
            go_enter Tryz.func53, Tryz.ntmps53
            go_wp2_with fail
            refine (next_byte r s a z _ H.out hs hlt).mono ?_
            rintro e w1 ⟨rfl, m, rfl⟩
            have HR0 := Lib.hid ((H.out.drewN m).to1 (a + 1))
            go_wp2_with fail
            refine (next_byte r s (a + 1) z _ HR0.out hs hlt1).mono ?_
            rintro e w1 ⟨rfl, m0, rfl⟩
            obtain ⟨d0, d1, d2, g1, g2⟩ := (HR0.out.drewN m0).cells
            go_wp2_with fail
            refine (wrong_any r _ _ _).mono ?_
            rintro e w1 ⟨he, rfl⟩
            cases he
            go_wp2_with fail
            refine ⟨rfl, ?_⟩
            show ValP _ _ _ _ _ _
            rw [HE.out]
            exact ⟨rfl, ((KB.drewN m).trans (KB.set 1 _)).trans (KB.drewN m0)⟩
          · have b49 : ¬ ((s[a + 1].toNat : Int) < 49) := by omega
            have b57 : 57 < (s[a + 1].toNat : Int) := by omega
            go_enter Tryz.func53, Tryz.ntmps53
            go_wp2_with fail
            refine (next_byte r s a z _ H.out hs hlt).mono ?_
            rintro e w1 ⟨rfl, m, rfl⟩
            have HR0 := Lib.hid ((H.out.drewN m).to1 (a + 1))
            go_wp2_with fail
            refine (next_byte r s (a + 1) z _ HR0.out hs hlt1).mono ?_
            rintro e w1 ⟨rfl, m0, rfl⟩
            obtain ⟨d0, d1, d2, g1, g2⟩ := (HR0.out.drewN m0).cells
            go_wp2_with fail
            refine (wrong_any r _ _ _).mono ?_
            rintro e w1 ⟨he, rfl⟩
            cases he
            go_wp2_with fail
            refine ⟨rfl, ?_⟩
            show ValP _ _ _ _ _ _
            rw [HE.out]
            exact ⟨rfl, ((KB.drewN m).trans (KB.set 1 _)).trans (KB.drewN m0)⟩
    · by_cases hd : 48 ≤ s[a].toNat ∧ s[a].toNat ≤ 57
      · have he : numR s a z = numV s a (numEnd s.data.toList a s[a]) z := by unfold numR; rw [at_some hlt]; simp only; rw [if_neg h45, if_pos hd]
        rw [he]
        by_cases h48 : s[a].toNat = 48
        · exact num_pos48 r s a z w h hlt hs ht h5 hr h48
        · exact num_pos r s a z w h hlt hs ht h5 hr ⟨by omega, hd.2⟩
      · have he : numR s a z = .error (a, 5) := by unfold numR; rw [at_some hlt]; simp only; rw [if_neg h45, if_neg hd]
        have HE := Lib.hid he
        have H := Lib.hid h
        obtain ⟨c0, c1, c2, f1, f2⟩ := h.cells
        have b45 : ((s[a].toNat : Int) == 45) = false := by simp only [beq_eq_false_iff_ne, ne_eq]; omega
        have hd' : s[a].toNat < 48 ∨ 57 < s[a].toNat := by omega
        clear he h hend ht h45 hd
        rcases hd' with hd | hd
        · have b48 : (s[a].toNat : Int) < 48 := by omega
          go_enter Tryz.func53, Tryz.ntmps53
          go_wp2_with fail
          refine (next_byte r s a z _ H.out hs hlt).mono ?_
          rintro e w1 ⟨rfl, m, rfl⟩
          go_wp2_with fail
          refine (wrong_any r _ _ _).mono ?_
          rintro e w1 ⟨he, rfl⟩
          cases he
          go_wp2_with fail
          refine ⟨rfl, ?_⟩
          show ValP _ _ _ _ _ _
          rw [HE.out]
          exact ⟨rfl, KB.drewN m⟩
        · have b48 : ¬ ((s[a].toNat : Int) < 48) := by omega
          have b57 : 57 < (s[a].toNat : Int) := by omega
          go_enter Tryz.func53, Tryz.ntmps53
          go_wp2_with fail
          refine (next_byte r s a z _ H.out hs hlt).mono ?_
          rintro e w1 ⟨rfl, m, rfl⟩
          go_wp2_with fail
          refine (wrong_any r _ _ _).mono ?_
          rintro e w1 ⟨he, rfl⟩
          cases he
          go_wp2_with fail
          refine ⟨rfl, ?_⟩
          show ValP _ _ _ _ _ _
          rw [HE.out]
          exact ⟨rfl, KB.drewN m⟩
end

section
open Go.RowKit
def wordV (t : VT) (z : Nat) : Except Nat Nat → RR
  | .error p => .error (p, 5)
  | .ok a' => .ok (t, a', z)
mutual
def valR (s : ByteArray) : Nat → Nat → Nat → Nat → RR
  | 0, a, _, _ => .error (a, 99)
  | k + 1, a, z, deep =>
    match s.data.toList[a]? with
    | none => numR s a (z + 1)
    | some c =>
      if c.toNat = 117 then wordV .unit (z + 1) (wordR s.data.toList [117, 110, 105, 116] a)
      else if c.toNat = 121 then wordV (.truth true) (z + 1) (wordR s.data.toList [121, 101, 115] a)
      else if c.toNat = 110 then wordV (.truth false) (z + 1) (wordR s.data.toList [110, 111] a)
      else if c.toNat = 34 then textV (z + 1) (textF s.data.toList (s.size + 1) (a + 1) [])
      else if c.toNat = 91 then listR s k a (z + 1) deep
      else numR s a (z + 1)
def listR (s : ByteArray) : Nat → Nat → Nat → Nat → RR
  | 0, a, _, _ => .error (a, 99)
  | k + 1, a, z, deep =>
    if deep = 64 then .error (a, 2)
    else if s.data.toList[a + 1]? = some 93 then .ok (.list [], a + 2, z)
    else elemsR s k (a + 1) z deep []
def elemsR (s : ByteArray) : Nat → Nat → Nat → Nat → List VT → RR
  | 0, a, _, _, _ => .error (a, 99)
  | k + 1, a, z, deep, acc =>
    match valR s k a z (deep + 1) with
    | .error e => .error e
    | .ok (t, a', z') =>
      if s.data.toList[a']? = some 93 then .ok (.list (acc ++ [t]), a' + 1, z')
      else if s.data.toList[a']? = some 44 then
        match wordR s.data.toList [44, 32] a' with
        | .error p => .error (p, 5)
        | .ok a'' => elemsR s k a'' z' deep (acc ++ [t])
      else .error (a', 5)
end
theorem wordR_bd {s : List UInt8} : ∀ (l : List UInt8) (a a' : Nat), a ≤ s.length → wordR s l a = .ok a' → a' = a + l.length ∧ a' ≤ s.length
  | [], a, a', ha, h => by simp only [wordR, Except.ok.injEq] at h; subst h; exact ⟨rfl, ha⟩
  | b :: l, a, a', ha, h => by
    simp only [wordR] at h
    split at h
    · rename_i hc
      have hlt := (List.getElem?_eq_some_iff.1 hc).1
      have := wordR_bd l (a + 1) a' (by omega) h
      simp only [List.length_cons]; omega
    · cases h
theorem textF_bd {s : List UInt8} : ∀ (k p : Nat) (acc acc' : List UInt8) (a' : Nat), textF s k p acc = .ok (acc', a') → p < a' ∧ a' ≤ s.length ∧ acc'.length + p < acc.length + a'
  | 0, p, acc, acc', a', h => by simp [textF] at h
  | k + 1, p, acc, acc', a', h => by
    simp only [textF] at h
    cases hc : s[p]? with
    | none => rw [hc] at h; cases h
    | some c =>
      have hlt := (List.getElem?_eq_some_iff.1 hc).1
      rw [hc] at h
      simp only at h
      split at h
      · cases h
      · split at h
        · simp only [Except.ok.injEq, Prod.mk.injEq] at h
          obtain ⟨rfl, rfl⟩ := h
          omega
        · split at h
          · split at h
            · cases h
            · rename_i x q hq
              have h1 := escR_bd hq
              have := textF_bd k (q + 1) _ _ _ h
              simp only [List.length_append, List.length_cons, List.length_nil] at this
              omega
          · have := textF_bd k (p + 1) _ _ _ h
            simp only [List.length_append, List.length_cons, List.length_nil] at this
            omega
theorem numR_bd {s : ByteArray} {a z : Nat} {t : VT} {a' z' : Nat} (h : numR s a z = .ok (t, a', z')) : a < a' ∧ a' ≤ s.size ∧ z' = z := by
  have key : ∀ b c, a ≤ b → b < s.data.toList.length → numV s a (numEnd s.data.toList b c) z = .ok (t, a', z') → a < a' ∧ a' ≤ s.size ∧ z' = z := by
    intro b c hb hlt hn
    have hsz : s.data.toList.length = s.size := by simp
    unfold numV at hn
    split at hn
    · simp only [Except.ok.injEq, Prod.mk.injEq] at hn
      obtain ⟨_, rfl, rfl⟩ := hn
      unfold numEnd
      split
      · omega
      · have := scanD_bd (s := s.data.toList) (s.data.toList.length + 1) (b + 1) (by omega)
        omega
    · cases hn
  unfold numR at h
  split at h
  · cases h
  · rename_i c hc
    have hlt := (List.getElem?_eq_some_iff.1 hc).1
    split at h
    · split at h
      · cases h
      · rename_i d hd
        have hlt2 := (List.getElem?_eq_some_iff.1 hd).1
        split at h
        · exact key _ _ (by omega) hlt2 h
        · cases h
    · split at h
      · exact key _ _ (by omega) hlt h
      · cases h
mutual
theorem valR_bd {s : ByteArray} : ∀ (k a z deep : Nat) (t : VT) (a' z' : Nat), a ≤ s.size → z ≤ a → valR s k a z deep = .ok (t, a', z') → a < a' ∧ a' ≤ s.size ∧ z' ≤ a'
  | 0, a, z, deep, t, a', z', ha, hz, h => by simp [valR] at h
  | k + 1, a, z, deep, t, a', z', ha, hz, h => by
    have hsz : s.data.toList.length = s.size := by simp
    simp only [valR] at h
    have hw : ∀ (t0 : VT) (l : List UInt8), 1 ≤ l.length → wordV t0 (z + 1) (wordR s.data.toList l a) = .ok (t, a', z') → a < a' ∧ a' ≤ s.size ∧ z' ≤ a' := by
      intro t0 l hl hv
      cases hr : wordR s.data.toList l a with
      | error p => rw [hr] at hv; cases hv
      | ok q =>
        rw [hr] at hv
        simp only [wordV, Except.ok.injEq, Prod.mk.injEq] at hv
        have := wordR_bd l a q (by omega) hr
        omega
    split at h
    · have := numR_bd h; omega
    · rename_i c hc
      have hlt := (List.getElem?_eq_some_iff.1 hc).1
      split at h
      · exact hw _ _ (by simp) h
      · split at h
        · exact hw _ _ (by simp) h
        · split at h
          · exact hw _ _ (by simp) h
          · split at h
            · cases hr : textF s.data.toList (s.size + 1) (a + 1) [] with
              | error p => rw [hr] at h; cases h
              | ok q =>
                obtain ⟨acc, q⟩ := q
                rw [hr] at h
                simp only [textV, Except.ok.injEq, Prod.mk.injEq] at h
                have := textF_bd _ _ _ _ _ hr
                simp at this
                omega
            · split at h
              · exact listR_bd k a (z + 1) deep t a' z' (by omega) (by omega) h
              · have := numR_bd h; omega
theorem listR_bd {s : ByteArray} : ∀ (k a z deep : Nat) (t : VT) (a' z' : Nat), a < s.size → z ≤ a + 1 → listR s k a z deep = .ok (t, a', z') → a < a' ∧ a' ≤ s.size ∧ z' ≤ a'
  | 0, a, z, deep, t, a', z', ha, hz, h => by simp [listR] at h
  | k + 1, a, z, deep, t, a', z', ha, hz, h => by
    have hsz : s.data.toList.length = s.size := by simp
    simp only [listR] at h
    split at h
    · cases h
    · split at h
      · rename_i hc
        have hlt := (List.getElem?_eq_some_iff.1 hc).1
        simp only [Except.ok.injEq, Prod.mk.injEq] at h
        omega
      · have := elemsR_bd k (a + 1) z deep [] t a' z' (by omega) (by omega) h
        omega
theorem elemsR_bd {s : ByteArray} : ∀ (k a z deep : Nat) (acc : List VT) (t : VT) (a' z' : Nat), a ≤ s.size → z ≤ a → elemsR s k a z deep acc = .ok (t, a', z') → a < a' ∧ a' ≤ s.size ∧ z' ≤ a'
  | 0, a, z, deep, acc, t, a', z', ha, hz, h => by simp [elemsR] at h
  | k + 1, a, z, deep, acc, t, a', z', ha, hz, h => by
    have hsz : s.data.toList.length = s.size := by simp
    simp only [elemsR] at h
    split at h
    · cases h
    · rename_i t0 a0 z0 hv
      have h0 := valR_bd k a z (deep + 1) t0 a0 z0 ha hz hv
      split at h
      · rename_i hc
        have hlt := (List.getElem?_eq_some_iff.1 hc).1
        simp only [Except.ok.injEq, Prod.mk.injEq] at h
        omega
      · split at h
        · split at h
          · cases h
          · rename_i q hq
            have h1 := wordR_bd [44, 32] a0 q (by omega) hq
            simp at h1
            have := elemsR_bd k q z0 deep _ t a' z' (by omega) (by omega) h
            omega
        · cases h
end
end

section
open Go.RowKit
set_option maxRecDepth 100000
/-- The reference's reader lies in block r: its text, its place, where it went wrong, and how. -/
def RX (r : Nat) (s : ByteArray) (a : Nat) (bad err : Int) (w : World) : Prop := w.heap[r]? = some (.cells #[.string s, .int .i64 a, .int .i64 bad, .int .i64 err] 85 (0, 0))
theorem RX.lt {r : Nat} {s : ByteArray} {a : Nat} {bad err : Int} {w : World} (h : RX r s a bad err w) : r < w.heap.size := (Array.getElem?_eq_some_iff.1 h).1
theorem RX.heap {r : Nat} {s : ByteArray} {a : Nat} {bad err : Int} {w w' : World} (h : RX r s a bad err w) (hh : w'.heap[r]? = w.heap[r]?) : RX r s a bad err w' := by unfold RX at *; rw [hh]; exact h
structure RXc (r : Nat) (s : ByteArray) (a : Nat) (bad err : Int) (w : World) : Prop where
  c0 : w.cell? ⟨r, 0, none⟩ = some (.string s)
  c1 : w.cell? ⟨r, 1, none⟩ = some (.int .i64 a)
  c2 : w.cell? ⟨r, 2, none⟩ = some (.int .i64 bad)
  c3 : w.cell? ⟨r, 3, none⟩ = some (.int .i64 err)
  f1 : w.frozen? ⟨r, 1, none⟩ = false
  f2 : w.frozen? ⟨r, 2, none⟩ = false
  f3 : w.frozen? ⟨r, 3, none⟩ = false
theorem RX.c {r : Nat} {s : ByteArray} {a : Nat} {bad err : Int} {w : World} (h : RX r s a bad err w) : RXc r s a bad err w :=
  ⟨(heapcell h 0).1, (heapcell h 1).1, (heapcell h 2).1, (heapcell h 3).1, (heapcell h 1).2, (heapcell h 2).2, (heapcell h 3).2⟩
theorem RX.to {r : Nat} {s : ByteArray} {a : Nat} {bad err : Int} {w : World} (h : RX r s a bad err w) (a' : Nat) : RX r s a' bad err (w.setCell ⟨r, 1, none⟩ (.int .i64 a')) := heap_set h _
theorem RX.fail {r : Nat} {s : ByteArray} {a : Nat} {bad err : Int} {w : World} (h : RX r s a bad err w) (c p : Int) : RX r s a p c ((w.setCell ⟨r, 3, none⟩ (.int .i64 c)).setCell ⟨r, 2, none⟩ (.int .i64 p)) := heap_set (heap_set h _) _
set_option maxHeartbeats 1000000 in
/-- 'fail', first of all. -/
theorem fail_first (r : Nat) (s : ByteArray) (a : Nat) (bad c p : Int) (w : World) (h : RX r s a bad 0 w) : Calls Tryz.prog 43 #[.pointer (some ⟨r, 0, none⟩), .int .i64 c, .int .i64 p] w fun e w' => e = .returned (.tuple #[]) ∧ RX r s a p c w' ∧ KB r w w' := by
  obtain ⟨c0, c1, c2, c3, f1, f2, f3⟩ := h.c
  have H := Lib.hid (h.fail c p)
  clear h
  go_enter Tryz.func43, Tryz.ntmps43
  go_wp2_with fail
  go_end0
  exact ⟨rfl, H.out, (KB.set 3 _).trans (KB.set 2 _)⟩
set_option maxHeartbeats 1000000 in
theorem fail_again (r : Nat) (s : ByteArray) (a : Nat) (bad err c p : Int) (w : World) (h : RX r s a bad err w) (he : (err == 0) = false) : Calls Tryz.prog 43 #[.pointer (some ⟨r, 0, none⟩), .int .i64 c, .int .i64 p] w fun e w' => e = .returned (.tuple #[]) ∧ w = w' := by
  obtain ⟨c0, c1, c2, c3, f1, f2, f3⟩ := h.c
  clear h
  go_enter Tryz.func43, Tryz.ntmps43
  go_wp2_with fail
  go_end0
  exact ⟨rfl, rfl⟩
/-- What 'peek' tells: the byte, or 256 at the end. -/
def pkI (s : ByteArray) (a : Nat) : Int := match s.data.toList[a]? with | none => 256 | some c => (c.toNat : Int)
theorem pkI_end {s : ByteArray} {a : Nat} (h : a = s.size) : pkI s a = 256 := by
  unfold pkI
  rw [List.getElem?_eq_none (by simp; omega)]
theorem pkI_at {s : ByteArray} {a : Nat} (h : a < s.size) : pkI s a = (s[a].toNat : Int) := by
  unfold pkI
  rw [List.getElem?_eq_getElem (by simpa using h)]
  rfl
set_option maxHeartbeats 1000000 in
theorem peek_any (r : Nat) (s : ByteArray) (a : Nat) (bad err : Int) (w : World) (h : RX r s a bad err w) (ha : a ≤ s.size) (_hs : s.size ≤ 1048576) : Calls Tryz.prog 62 #[.pointer (some ⟨r, 0, none⟩)] w fun e w' => e = .returned (.int .i64 (pkI s a)) ∧ ∃ n, w' = w.drewN n := by
  obtain ⟨c0, c1, c2, c3, f1, f2, f3⟩ := h.c
  clear h
  by_cases hend : a = s.size
  · have HP := Lib.hid (pkI_end hend)
    subst hend
    go_enter Tryz.func62, Tryz.ntmps62
    go_wp2_with fail
    go_quiet (fail)
    go_wp2_with fail
    go_ret
    exact ⟨ret_int HP.out.symm, nq, rfl⟩
  · have hlt : a < s.size := by omega
    have HP := Lib.hid (pkI_at hlt)
    have hne : ((a : Int) == (s.size : Int)) = false := by
      simp only [beq_eq_false_iff_ne, ne_eq]; omega
    clear hend
    go_enter Tryz.func62, Tryz.ntmps62
    go_wp2_with fail
    go_quiet (fail)
    go_wp2_with fail
    go_quiet (fail)
    go_wp2_with fail
    go_ret
    exact ⟨ret_int (by rw [HP.out]; have := s[a].toNat_lt; unfold wrap64; omega), _, World.drewN_drewN _ _ _⟩
end

section
open Go.RowKit
set_option maxRecDepth 100000
def WdX (r : Nat) (s : ByteArray) (bad : Int) (w : World) : Except Nat Nat → World → Prop
  | .ok a', w' => RX r s a' bad 0 w' ∧ KB r w w'
  | .error p, w' => RX r s p p 5 w' ∧ KB r w w'
def WdQ (r : Nat) (s : ByteArray) (bad : Int) (w : World) (x : Except Nat Nat) (e : Ending) (w' : World) : Prop := e = .returned (.tuple #[]) ∧ WdX r s bad w x w'
theorem pkI_word {s : ByteArray} {a : Nat} {b : UInt8} : (pkI s a != (b.toNat : Int)) = !decide (s.data.toList[a]? = some b) := by
  have hb := b.toNat_lt
  unfold pkI
  cases h : s.data.toList[a]? with
  | none => simp; omega
  | some c =>
    by_cases e : c = b
    · subst e; simp
    · have : (c.toNat : Int) ≠ (b.toNat : Int) := fun h => e (UInt8.toNat_inj.1 (by omega))
      simp [e, bne_iff_ne, this]
set_option maxHeartbeats 2000000 in
theorem rword_any (r : Nat) (s : ByteArray) (a : Nat) (bad : Int) (wt : ByteArray) (w : World) (h : RX r s a bad 0 w) (ha : a ≤ s.size) (hs : s.size ≤ 1048576) (hw : wt.size ≤ 1048576) :
    Calls Tryz.prog 63 #[.pointer (some ⟨r, 0, none⟩), .string wt] w (WdQ r s bad w (wordR s.data.toList wt.data.toList a)) := by
  have H := Lib.hid h
  clear h
  go_enter Tryz.func63, Tryz.ntmps63
  go_wp2_with fail
  go_loopw [4] (fun iv wr => ∃ (i : Nat), i ≤ wt.size ∧ a + i ≤ s.size ∧ iv = .int .i64 i ∧ Hid (RX r s (a + i) bad 0 wr) ∧ Hid (KB r w wr) ∧ Hid (wordR s.data.toList (wt.data.toList.drop i) (a + i) = wordR s.data.toList wt.data.toList a))
    (fun i _ => wt.size - (intOf i).toNat)
  case atStart => exact ⟨0, by omega, by omega, rfl, H, Lib.hid (KB.refl _ _), Lib.hid (by simp)⟩
  case round =>
    obtain ⟨i, hi, hai, rfl, hrd, hkb, heq⟩ := hrel
    by_cases hlt : i < wt.size
    · have hstep : wordR s.data.toList (wt.data.toList.drop i) (a + i) = if s.data.toList[a + i]? = some wt[i] then wordR s.data.toList (wt.data.toList.drop (i + 1)) (a + i + 1) else .error (a + i) := by
        rw [List.drop_eq_getElem_cons (by simpa using hlt), wordR]; rfl
      rw [show wordR s.data.toList (wt.data.toList.drop i) (a + i) = _ from hstep] at heq
      clear hstep
      have hpk : (pkI s (a + i) != (wt[i].toNat : Int)) = !decide (s.data.toList[a + i]? = some wt[i]) := pkI_word
      have HPK := Lib.hid (fun n : Nat => peek_any r s (a + i) bad 0 (wr.drewN n) (hrd.out.heap rfl) hai hs)
      have h8 := wt[i].toNat_lt
      by_cases hc : s.data.toList[a + i]? = some wt[i]
      · have hlt2 : a + i < s.size := by
          have := (List.getElem?_eq_some_iff.1 hc).1
          simpa using this
        rw [if_pos hc] at heq
        rw [show decide (s.data.toList[a + i]? = some wt[i]) = true from decide_eq_true hc] at hpk
        clear hc
        simp only [Bool.not_true] at hpk
        go_wp2_with fail
        go_quiet ((go_at_call 62; exact Calls.quiet_of (HPK.out _)))
        have hx : RX r s (a + i) bad 0 (wr.drewN nq) := hrd.out.heap rfl
        have HX := Lib.hid (hx.to (a + i + 1))
        obtain ⟨c0, c1, c2, c3, f1, f2, f3⟩ := hx.c
        have e1 : (((a + i + 1 : Nat)) : Int) = (a : Int) + i + 1 := by omega
        have e2 : (((a + i : Nat)) : Int) = (a : Int) + i := by omega
        rw [e1] at HX
        rw [e2] at c1
        clear hx hpk
        go_wp2_with fail
        go_roundw
        case rel =>
          refine ⟨i + 1, by omega, by omega, by go_num, ?_, Lib.hid ((hkb.out.trans (KB.drewN nq)).trans (KB.set 1 _)), heq⟩
          have := HX.out
          rw [show a + (i + 1) = a + i + 1 from by omega]
          exact Lib.hid (by unfold RX at *; rw [← e1] at this; exact this)
        case measure => simp [intOf]; omega
      · rw [if_neg hc] at heq
        rw [show decide (s.data.toList[a + i]? = some wt[i]) = false from decide_eq_false hc] at hpk
        clear hc
        simp only [Bool.not_false] at hpk
        go_wp2_with fail
        go_quiet ((go_at_call 62; exact Calls.quiet_of (HPK.out _)))
        have hx : RX r s (a + i) bad 0 (wr.drewN nq) := hrd.out.heap rfl
        have HX := Lib.hid hx
        obtain ⟨c0, c1, c2, c3, f1, f2, f3⟩ := hx.c
        clear hx hpk
        go_wp2_with fail
        refine (fail_first r s (a + i) bad 5 _ _ HX.out).mono ?_
        rintro e w1 ⟨rfl, h1, h2⟩
        have H1 := Lib.hid h1
        have H2 := Lib.hid ((hkb.out.trans (KB.drewN nq)).trans h2)
        clear h1 h2 c0 c1 c2 c3 f1 f2 f3
        go_wp2_with fail
        go_end0
        refine ⟨rfl, ?_⟩
        rw [← heq.out]
        exact ⟨H1.out, H2.out⟩
    · obtain rfl : i = wt.size := by omega
      have hd : wordR s.data.toList wt.data.toList a = .ok (a + wt.size) := by
        rw [← heq.out, List.drop_eq_nil_iff.2 (by simp), wordR]
      have HD := Lib.hid hd
      clear hd
      go_wp2_with fail
      go_end0
      refine ⟨rfl, ?_⟩
      rw [HD.out]
      exact ⟨hrd.out, hkb.out⟩
end

section
open Go.RowKit
set_option maxRecDepth 100000
def dgI (n : Int) : Int := if 48 ≤ n ∧ n ≤ 57 then n - 48 else if 97 ≤ n ∧ n ≤ 102 then n - 87 else -1
theorem hexd_num : ∀ i : Fin 16, ((hexd i.val).toNat : Int) = if i.val < 10 then (i.val : Int) + 48 else (i.val : Int) + 87 := by decide
theorem hexd_at {i : Nat} (h : i < 16) : ((hexd i).toNat : Int) = if i < 10 then (i : Int) + 48 else (i : Int) + 87 := hexd_num ⟨i, h⟩
theorem dgI_hit {i : Nat} (h : i < 16) {n : Int} (e : ((hexd i).toNat : Int) = n) : dgI n = i := by
  rw [hexd_at h] at e
  unfold dgI
  split at e
  · rw [if_pos (by omega)]; omega
  · rw [if_neg (by omega), if_pos (by omega)]; omega
theorem dgI_miss {n : Int} (h : ∀ j, j < 16 → ((hexd j).toNat : Int) ≠ n) : dgI n = -1 := by
  unfold dgI
  by_cases h1 : 48 ≤ n ∧ n ≤ 57
  · have := h (n - 48).toNat (by omega)
    rw [hexd_at (by omega), if_pos (by omega)] at this
    omega
  · rw [if_neg h1]
    by_cases h2 : 97 ≤ n ∧ n ≤ 102
    · have := h (n - 87).toNat (by omega)
      rw [hexd_at (by omega), if_neg (by omega)] at this
      omega
    · rw [if_neg h2]
set_option maxHeartbeats 2000000 in
theorem digit_any (w : World) (n : Int) : Calls Tryz.prog 80 #[.int .i64 n] w fun e w' => e = .returned (.int .i64 (dgI n)) ∧ w = w' := by
  go_enter Tryz.func80, Tryz.ntmps80
  go_wp2_with fail
  go_loopw [3] (fun iv wr => ∃ (i : Nat), i ≤ 16 ∧ iv = .int .i64 i ∧ Hid (w = wr) ∧ Hid (∀ j, j < i → ((hexd j).toNat : Int) ≠ n))
    (fun i _ => 16 - (intOf i).toNat)
  case atStart => exact ⟨0, by omega, rfl, Lib.hid rfl, Lib.hid (fun j h => by omega)⟩
  case round =>
    obtain ⟨i, hi, rfl, hw, hm⟩ := hrel
    by_cases hlt : i < 16
    · have hx := hex_at i (by exact hlt)
      have hlI : (i : Int) < 16 := by omega
      have h8 := (hexd i).toNat_lt
      cases hc : (((hexd i).toNat : Int) == n) with
      | true =>
        have HD := Lib.hid (dgI_hit hlt (by simpa using hc))
        go_wp2_with fail
        go_ret
        exact ⟨ret_int HD.out.symm, hw.out⟩
      | false =>
        have hne : ((hexd i).toNat : Int) ≠ n := by simpa using hc
        have HN : Hid (∀ j, j < i + 1 → ((hexd j).toNat : Int) ≠ n) := Lib.hid (fun j hj => by
          rcases Nat.lt_or_ge j i with h | h
          · exact hm.out j h
          · obtain rfl : j = i := by omega
            exact hne)
        clear hne
        go_wp2_with fail
        go_roundw
        case rel => exact ⟨i + 1, by omega, by go_num, hw, HN⟩
        case measure => simp [intOf]; omega
    · obtain rfl : i = 16 := by omega
      have HD := Lib.hid (dgI_miss hm.out)
      go_wp2_with fail
      go_ret
      exact ⟨ret_int HD.out.symm, hw.out⟩
end

section
open Go.RowKit
set_option maxRecDepth 100000
theorem hexI_all : ∀ c : Fin 256, hexI (UInt8.ofNat c.val) = dgI (c.val : Int) := by decide
theorem hexI_dg (c : UInt8) : hexI c = dgI (c.toNat : Int) := by
  have h := hexI_all ⟨c.toNat, c.toNat_lt⟩
  simpa using h
theorem dgI_end : dgI 256 = -1 := by decide
theorem dgI_bd (n : Int) : -1 ≤ dgI n ∧ dgI n ≤ 15 := by unfold dgI; split <;> (try split) <;> omega
/-- The reference's own way through an escape. -/
def escX (s : ByteArray) (a : Nat) : Except Nat (UInt8 × Nat) :=
  if pkI s a = 34 ∨ pkI s a = 92 then .ok (UInt8.ofNat (pkI s a).toNat, a)
  else if pkI s a ≠ 120 then .error a
  else if dgI (pkI s (a + 1)) < 0 ∨ (2 ≤ dgI (pkI s (a + 1)) ∧ dgI (pkI s (a + 1)) ≤ 6) then .error (a + 1)
  else if dgI (pkI s (a + 2)) < 0 ∨ (dgI (pkI s (a + 1)) = 7 ∧ dgI (pkI s (a + 2)) ≠ 15) then .error (a + 2)
  else .ok (UInt8.ofNat (dgI (pkI s (a + 1)) * 16 + dgI (pkI s (a + 2))).toNat, a + 2)
theorem pkI_none {s : ByteArray} {a : Nat} (h : s.data.toList[a]? = none) : pkI s a = 256 := by unfold pkI; rw [h]
theorem pkI_some {s : ByteArray} {a : Nat} {c : UInt8} (h : s.data.toList[a]? = some c) : pkI s a = (c.toNat : Int) := by unfold pkI; rw [h]
theorem escX_eq (s : ByteArray) (a : Nat) : escX s a = escR s.data.toList a := by
  unfold escX escR
  cases h0 : s.data.toList[a]? with
  | none => rw [pkI_none h0]; simp
  | some c =>
    rw [pkI_some h0]
    simp only
    by_cases h1 : c.toNat = 34 ∨ c.toNat = 92
    · rw [if_pos (by omega), if_pos h1]; simp
    · rw [if_neg (by omega), if_neg h1]
      by_cases h2 : c.toNat = 120
      · rw [if_neg (show ¬ ((c.toNat : Int) ≠ 120) by omega), if_neg (show ¬ (c.toNat ≠ 120) by omega)]
        cases h3 : s.data.toList[a + 1]? with
        | none => rw [escT_none h3, pkI_none h3, dgI_end, if_pos (.inl (by decide))]
        | some d =>
          rw [escT_some h3, pkI_some h3, ← hexI_dg]
          have b1 := hexI_bd d
          by_cases h4 : hexI d < 0 ∨ (2 ≤ hexI d ∧ hexI d ≤ 6)
          · rw [if_pos h4, if_pos (by omega)]
          · have n1 : ¬ (hexI d < 0 ∨ ((1 : Nat) = 1 ∧ 2 ≤ hexI d ∧ hexI d ≤ 6)) := by omega
            have n2 : ¬ ((1 : Nat) = 0 ∧ 32 ≤ 0 * 16 + hexI d ∧ 0 * 16 + hexI d ≤ 126) := by omega
            rw [if_neg h4, if_neg n1, if_neg n2]
            cases h5 : s.data.toList[a + 2]? with
            | none => rw [escT_none (show s.data.toList[a + 1 + 1]? = none from h5), pkI_none h5, dgI_end, if_pos (.inl (by decide))]
            | some f =>
              rw [escT_some (show s.data.toList[a + 1 + 1]? = some f from h5), pkI_some h5, ← hexI_dg]
              have b2 := hexI_bd f
              by_cases h6 : hexI f < 0
              · rw [if_pos (.inl h6), if_pos (.inl h6)]
              · have n3 : ¬ (hexI f < 0 ∨ ((0 : Nat) = 1 ∧ 2 ≤ hexI f ∧ hexI f ≤ 6)) := by omega
                by_cases h7 : hexI d = 7 ∧ hexI f ≠ 15
                · have n4 : (0 : Nat) = 0 ∧ 32 ≤ (0 * 16 + hexI d) * 16 + hexI f ∧ (0 * 16 + hexI d) * 16 + hexI f ≤ 126 := by omega
                  rw [if_pos (.inr h7), if_neg n3, if_pos n4]
                · have n5 : ¬ ((0 : Nat) = 0 ∧ 32 ≤ (0 * 16 + hexI d) * 16 + hexI f ∧ (0 * 16 + hexI d) * 16 + hexI f ≤ 126) := by omega
                  have n6 : ¬ (hexI f < 0 ∨ (hexI d = 7 ∧ hexI f ≠ 15)) := by omega
                  rw [if_neg n6, if_neg n3, if_neg n5, escT]
                  simp
      · rw [if_pos (by omega), if_pos h2]
end

section
open Go.RowKit
set_option maxRecDepth 100000
def EsX (r : Nat) (s : ByteArray) (bad : Int) (w : World) : Except Nat (UInt8 × Nat) → Ending → World → Prop
  | .ok (x, a'), e, w' => e = .returned (.int .u8 x.toNat) ∧ RX r s (a' + 1) bad 0 w' ∧ KB r w w'
  | .error p, e, w' => e = .returned (.int .u8 0) ∧ RX r s p p 5 w' ∧ KB r w w'
def EsQ (r : Nat) (s : ByteArray) (bad : Int) (w : World) (x : Except Nat (UInt8 × Nat)) (e : Ending) (w' : World) : Prop := EsX r s bad w x e w'
theorem pkI_lt {s : ByteArray} {a : Nat} (ha : a ≤ s.size) (h : pkI s a ≠ 256) : a < s.size := by
  rcases Nat.lt_or_ge a s.size with h1 | h1
  · exact h1
  · exact absurd (pkI_end (by omega)) h
theorem pkI_bd (s : ByteArray) (a : Nat) : 0 ≤ pkI s a ∧ pkI s a ≤ 256 := by
  unfold pkI
  split
  · decide
  · rename_i c _; have := c.toNat_lt; omega
theorem word_x (s : ByteArray) (a : Nat) : wordR s.data.toList [120] a = if pkI s a = 120 then .ok (a + 1) else .error a := by
  unfold wordR wordR
  cases h : s.data.toList[a]? with
  | none => rw [pkI_none h, if_neg (by decide), if_neg (by simp)]
  | some c =>
    rw [pkI_some h]
    by_cases e : c = 120
    · subst e; simp
    · have h2 : ¬ ((c.toNat : Int) = 120) := fun h => by
        have h3 : c.toNat = 120 := by omega
        exact e (UInt8.toNat_inj.1 h3)
      rw [if_neg h2, if_neg (by simpa using e)]
set_option maxHeartbeats 4000000 in
theorem resc_any (r : Nat) (s : ByteArray) (a : Nat) (bad : Int) (w : World) (h : RX r s a bad 0 w) (ha : a ≤ s.size) (hs : s.size ≤ 1048576) :
    Calls Tryz.prog 71 #[.pointer (some ⟨r, 0, none⟩)] w (EsQ r s bad w (escR s.data.toList a)) := by
  rw [← escX_eq]
  have H := Lib.hid h
  have HW := Lib.hid (word_x s a)
  have hb0 := pkI_bd s a
  have HLT := Lib.hid (fun h => pkI_lt (s := s) (a := a) ha h)
  clear h
  have HPK := Lib.hid (peek_any r s a bad 0 w H.out ha hs)
  by_cases h1 : pkI s a = 34 ∨ pkI s a = 92
  · have hE : escX s a = .ok (UInt8.ofNat (pkI s a).toNat, a) := by unfold escX; rw [if_pos h1]
    have HE := Lib.hid hE
    have hlt : a < s.size := HLT.out (by omega)
    have HX := Lib.hid ((H.out.heap (w' := w.drewN 0) rfl).to (a + 1))
    generalize pkI s a = pk at h1 HPK HE hb0
    clear HW HLT hE
    have hc : (pk == 34 || pk == 92) = true := by rcases h1 with h | h <;> subst h <;> rfl
    rcases h1 with h1 | h1
    · subst h1
      go_enter Tryz.func71, Tryz.ntmps71
      go_wp2_with fail
      refine HPK.out.mono ?_
      rintro e w1 ⟨rfl, n, rfl⟩
      have hx : RX r s a bad 0 (w.drewN n) := H.out.heap rfl
      have HX := Lib.hid (hx.to (a + 1))
      obtain ⟨c0, c1, c2, c3, f1, f2, f3⟩ := hx.c
      clear hx
      go_wp2_with fail
      go_ret
      rw [HE.out]
      exact ⟨rfl, HX.out, (KB.drewN n).trans (KB.set 1 _)⟩
    · subst h1
      go_enter Tryz.func71, Tryz.ntmps71
      go_wp2_with fail
      refine HPK.out.mono ?_
      rintro e w1 ⟨rfl, n, rfl⟩
      have hx : RX r s a bad 0 (w.drewN n) := H.out.heap rfl
      have HX := Lib.hid (hx.to (a + 1))
      obtain ⟨c0, c1, c2, c3, f1, f2, f3⟩ := hx.c
      clear hx
      go_wp2_with fail
      go_ret
      rw [HE.out]
      exact ⟨rfl, HX.out, (KB.drewN n).trans (KB.set 1 _)⟩
  · have n34 : (pkI s a == 34) = false := by simp; omega
    have n92 : (pkI s a == 92) = false := by simp; omega
    by_cases h2 : pkI s a = 120
    · have hE : escX s a = if dgI (pkI s (a + 1)) < 0 ∨ (2 ≤ dgI (pkI s (a + 1)) ∧ dgI (pkI s (a + 1)) ≤ 6) then .error (a + 1)
          else if dgI (pkI s (a + 2)) < 0 ∨ (dgI (pkI s (a + 1)) = 7 ∧ dgI (pkI s (a + 2)) ≠ 15) then .error (a + 2)
          else .ok (UInt8.ofNat (dgI (pkI s (a + 1)) * 16 + dgI (pkI s (a + 2))).toNat, a + 2) := by unfold escX; rw [if_neg h1, if_neg (by omega)]
      have hlt : a < s.size := HLT.out (by omega)
      have HE := Lib.hid hE
      rw [if_pos h2] at HW
      clear h1 h2 hE HLT
      have HLT1 : Hid (pkI s (a + 1) ≠ 256 → a + 1 < s.size) := Lib.hid (fun h => pkI_lt (by omega) h)
      have HPK1 := Lib.hid (fun (w : World) (h : RX r s (a + 1) bad 0 w) => peek_any r s (a + 1) bad 0 w h (by omega) hs)
      have HPK2 := Lib.hid (fun (w : World) (h : RX r s (a + 2) bad 0 w) (h' : a + 2 ≤ s.size) => peek_any r s (a + 2) bad 0 w h h' hs)
      generalize pkI s a = pk at n34 n92 HPK hb0
      generalize pkI s (a + 1) = pk1 at HPK1 HE HLT1
      generalize pkI s (a + 2) = pk2 at HPK2 HE
      go_enter Tryz.func71, Tryz.ntmps71
      go_wp2_with fail
      refine HPK.out.mono ?_
      rintro e w1 ⟨rfl, n, rfl⟩
      have HX : Hid (RX r s a bad 0 (w.drewN n)) := Lib.hid (H.out.heap rfl)
      go_wp2_with fail
      refine (rword_any r s a bad ⟨#[120]⟩ (w.drewN n) HX.out ha hs (by decide)).mono ?_
      rintro e w2 ⟨rfl, hq⟩
      rw [show (⟨#[120]⟩ : ByteArray).data.toList = [120] from rfl, HW.out] at hq
      obtain ⟨hx, hk⟩ := hq
      have HX2 := Lib.hid hx
      have HK2 := Lib.hid ((KB.drewN n).trans hk)
      clear hx hk
      go_wp2_with fail
      refine (HPK1.out w2 HX2.out).mono ?_
      rintro e w3 ⟨rfl, m, rfl⟩
      have HXn : Hid (RX r s (a + 1) bad 0 (w2.drewN m)) := Lib.hid (HX2.out.heap rfl)
      have HK3 := Lib.hid (HK2.out.trans (KB.drewN m))
      go_wp2_with fail
      refine (digit_any _ _).mono ?_
      rintro e w4 ⟨rfl, rfl⟩
      obtain ⟨c0, c1, c2, c3, f1, f2, f3⟩ := HXn.out.c
      have d1b := dgI_bd pk1
      have HLD : Hid (0 ≤ dgI pk1 → a + 1 < s.size) := Lib.hid (fun h => HLT1.out (fun e => by rw [e, dgI_end] at h; omega))
      generalize dgI pk1 = D1 at d1b HE HLD ⊢
      by_cases hA1 : D1 < 0
      · rw [if_pos (.inl hA1)] at HE
        go_wp2_with fail
        refine (fail_first r s (a + 1) bad 5 _ _ HXn.out).mono ?_
        rintro e w9 ⟨rfl, hx9, hk9⟩
        have HX9 := Lib.hid hx9
        have HK9 := Lib.hid (HK3.out.trans hk9)
        clear hx9 hk9 c0 c1 c2 c3 f1 f2 f3
        obtain ⟨c0, c1, c2, c3, f1, f2, f3⟩ := HX9.out.c
        go_wp2_with fail
        go_ret
        rw [HE.out]
        exact ⟨rfl, HX9.out, HK9.out⟩
      · by_cases hA2 : 2 ≤ D1 ∧ D1 ≤ 6
        · rw [if_pos (.inr hA2)] at HE
          obtain ⟨h3, h4⟩ := hA2
          go_wp2_with fail
          refine (fail_first r s (a + 1) bad 5 _ _ HXn.out).mono ?_
          rintro e w9 ⟨rfl, hx9, hk9⟩
          have HX9 := Lib.hid hx9
          have HK9 := Lib.hid (HK3.out.trans hk9)
          clear hx9 hk9 c0 c1 c2 c3 f1 f2 f3
          obtain ⟨c0, c1, c2, c3, f1, f2, f3⟩ := HX9.out.c
          go_wp2_with fail
          go_ret
          rw [HE.out]
          exact ⟨rfl, HX9.out, HK9.out⟩
        · rw [if_neg (by omega)] at HE
          have hlt1 : a + 1 < s.size := HLD.out (by omega)
          have hX5 := HXn.out.to (a + 2)
          have e1 : ((a + 2 : Nat) : Int) = (a : Int) + 1 + 1 := by omega
          have e2 : ((a + 1 : Nat) : Int) = (a : Int) + 1 := by omega
          rw [e1] at hX5
          have HX5 : Hid (RX r s (a + 2) bad 0 ((w2.drewN m).setCell ⟨r, 1, none⟩ (.int .i64 ((a : Int) + 1 + 1)))) := Lib.hid hX5
          have HK5 : Hid (KB r w ((w2.drewN m).setCell ⟨r, 1, none⟩ (.int .i64 ((a : Int) + 1 + 1)))) := Lib.hid (HK3.out.trans (KB.set 1 _))
          rw [e2] at c1
          clear hX5 e1 e2
          have hd : (D1 ≠ 7 ∧ ((0 ≤ D1 ∧ D1 < 2) ∨ 6 < D1)) ∨ D1 = 7 := by omega
          rcases hd with ⟨h7, hd⟩ | h7
          · have n7 : (D1 == 7) = false := by simp; omega
            have hd2 : D1 < 2 ∨ 6 < D1 := by omega
            clear hd
            rcases hd2 with hd | hd
            all_goals
              go_wp2_with fail
              generalize ((w2.drewN m).setCell ⟨r, 1, none⟩ (.int .i64 ((a : Int) + 1 + 1))) = W5 at HX5 HK5 ⊢
              refine (HPK2.out W5 HX5.out (by omega)).mono ?_
              rintro e w6 ⟨rfl, m2, rfl⟩
              have HXn2 : Hid (RX r s (a + 2) bad 0 (W5.drewN m2)) := Lib.hid (HX5.out.heap rfl)
              have HK6 := Lib.hid (HK5.out.trans (KB.drewN m2))
              clear c0 c1 c2 c3 f1 f2 f3
              go_wp2_with fail
              refine (digit_any _ _).mono ?_
              rintro e w7 ⟨rfl, rfl⟩
              obtain ⟨c0, c1, c2, c3, f1, f2, f3⟩ := HXn2.out.c
              have d2b := dgI_bd pk2
              generalize dgI pk2 = D2 at d2b HE ⊢
              by_cases hB1 : D2 < 0
              · rw [if_pos (.inl hB1)] at HE
                go_wp2_with fail
                refine (fail_first r s (a + 2) bad 5 _ _ HXn2.out).mono ?_
                rintro e w9 ⟨rfl, hx9, hk9⟩
                have HX9 := Lib.hid hx9
                have HK9 := Lib.hid (HK6.out.trans hk9)
                clear hx9 hk9 c0 c1 c2 c3 f1 f2 f3
                go_wp2_with fail
                go_ret
                rw [HE.out]
                exact ⟨rfl, HX9.out, HK9.out⟩
              · have hno : ¬ (D2 < 0 ∨ (D1 = 7 ∧ D2 ≠ 15)) := by omega
                rw [if_neg hno] at HE
                clear hno
                go_wp2_with fail
                have hX7 := HXn2.out.to (a + 3)
                have e1 : ((a + 3 : Nat) : Int) = (a : Int) + 2 + 1 := by omega
                have e2 : ((a + 2 : Nat) : Int) = (a : Int) + 2 := by omega
                rw [e1] at hX7
                have HX7 := Lib.hid hX7
                rw [e2] at c1
                clear hX7 e1 e2
                have hbv : IntKind.u8.wrap (D1 * 16 + D2) = D1 * 16 + D2 := by unfold IntKind.wrap; simp [IntKind.bits, IntKind.signed]; omega
                have HBV : Hid (((D1 * 16 + D2).toNat : Int) = D1 * 16 + D2) := Lib.hid (by omega)
                have HB3 : Hid (((UInt8.ofNat (D1 * 16 + D2).toNat).toNat : Int) = D1 * 16 + D2) := Lib.hid (by rw [UInt8.toNat_ofNat', Nat.mod_eq_of_lt (by omega)]; omega)
                go_wp2_with fail
                go_ret
                rw [HE.out]
                exact ⟨ret_int HB3.out.symm, HX7.out, HK6.out.trans (KB.set 1 _)⟩
          · subst h7
            go_wp2_with fail
            generalize ((w2.drewN m).setCell ⟨r, 1, none⟩ (.int .i64 ((a : Int) + 1 + 1))) = W5 at HX5 HK5 ⊢
            refine (HPK2.out W5 HX5.out (by omega)).mono ?_
            rintro e w6 ⟨rfl, m2, rfl⟩
            have HXn2 : Hid (RX r s (a + 2) bad 0 (W5.drewN m2)) := Lib.hid (HX5.out.heap rfl)
            have HK6 := Lib.hid (HK5.out.trans (KB.drewN m2))
            clear c0 c1 c2 c3 f1 f2 f3
            go_wp2_with fail
            refine (digit_any _ _).mono ?_
            rintro e w7 ⟨rfl, rfl⟩
            obtain ⟨c0, c1, c2, c3, f1, f2, f3⟩ := HXn2.out.c
            have d2b := dgI_bd pk2
            generalize dgI pk2 = D2 at d2b HE ⊢
            by_cases hB1 : D2 < 0
            · rw [if_pos (.inl hB1)] at HE
              go_wp2_with fail
              refine (fail_first r s (a + 2) bad 5 _ _ HXn2.out).mono ?_
              rintro e w9 ⟨rfl, hx9, hk9⟩
              have HX9 := Lib.hid hx9
              have HK9 := Lib.hid (HK6.out.trans hk9)
              clear hx9 hk9 c0 c1 c2 c3 f1 f2 f3
              go_wp2_with fail
              go_ret
              rw [HE.out]
              exact ⟨rfl, HX9.out, HK9.out⟩
            · by_cases h15 : D2 = 15
              · subst h15
                rw [if_neg (by omega)] at HE
                go_wp2_with fail
                have hX7 := HXn2.out.to (a + 3)
                have e1 : ((a + 3 : Nat) : Int) = (a : Int) + 2 + 1 := by omega
                have e2 : ((a + 2 : Nat) : Int) = (a : Int) + 2 := by omega
                rw [e1] at hX7
                have HX7 := Lib.hid hX7
                rw [e2] at c1
                clear hX7 e1 e2
                go_wp2_with fail
                go_ret
                rw [HE.out]
                exact ⟨ret_int (by decide), HX7.out, HK6.out.trans (KB.set 1 _)⟩
              · rw [if_pos (by simp [h15])] at HE
                have n15 : (D2 != 15) = true := by simpa using h15
                go_wp2_with fail
                refine (fail_first r s (a + 2) bad 5 _ _ HXn2.out).mono ?_
                rintro e w9 ⟨rfl, hx9, hk9⟩
                have HX9 := Lib.hid hx9
                have HK9 := Lib.hid (HK6.out.trans hk9)
                clear hx9 hk9 c0 c1 c2 c3 f1 f2 f3
                go_wp2_with fail
                go_ret
                rw [HE.out]
                exact ⟨rfl, HX9.out, HK9.out⟩
    · have hE : escX s a = .error a := by unfold escX; rw [if_neg h1, if_pos h2]
      have HE := Lib.hid hE
      rw [if_neg h2] at HW
      clear h1 h2 hE HLT
      generalize pkI s a = pk at n34 n92 HPK hb0
      go_enter Tryz.func71, Tryz.ntmps71
      go_wp2_with fail
      refine HPK.out.mono ?_
      rintro e w1 ⟨rfl, n, rfl⟩
      have HX : Hid (RX r s a bad 0 (w.drewN n)) := Lib.hid (H.out.heap rfl)
      go_wp2_with fail
      refine (rword_any r s a bad ⟨#[120]⟩ (w.drewN n) HX.out ha hs (by decide)).mono ?_
      rintro e w2 ⟨rfl, hq⟩
      rw [show (⟨#[120]⟩ : ByteArray).data.toList = [120] from rfl, HW.out] at hq
      obtain ⟨hx, hk⟩ := hq
      have HX2 := Lib.hid hx
      have HK2 := Lib.hid ((KB.drewN n).trans hk)
      clear hx hk
      go_wp2_with fail
      refine (peek_any r s a a 5 w2 HX2.out ha hs).mono ?_
      rintro e w3 ⟨rfl, m, rfl⟩
      have HX3 : Hid (RX r s a a 5 (w2.drewN m)) := Lib.hid (HX2.out.heap rfl)
      go_wp2_with fail
      refine (digit_any _ _).mono ?_
      rintro e w4 ⟨rfl, rfl⟩
      obtain ⟨c0, c1, c2, c3, f1, f2, f3⟩ := HX3.out.c
      go_wp2_with fail
      go_ret
      rw [HE.out]
      exact ⟨rfl, HX3.out, HK2.out.trans (KB.drewN m)⟩
end
end Go.Proofs.YtkpnnhebfaggeaaGreatDoor
