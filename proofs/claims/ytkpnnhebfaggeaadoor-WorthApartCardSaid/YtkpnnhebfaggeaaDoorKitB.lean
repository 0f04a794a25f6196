/-
  The builder, quote, write, Text, and the first half of the reader: walks by the kit.
  Conditions: none.
-/
import Derived.Test.YtkpnnhebfaggeaaDoorShelf
import Derived.Test.YtkpnnhebfaggeaaDoorKitA
import Derived.Lib.FrozenHead2
import Derived.Lib.OthersKept
import Derived.WalkSmall
import Derived.Lib.BufferRead
import Derived.Deep.RegionHeld3
namespace Go.Proofs.YtkpnnhebfaggeaaDoor
section
open Go.RowKit
set_option maxRecDepth 100000
theorem sizeB : (Tryd.prog.info? 67).map (·.size) = some 2 := by kernel_rfl
theorem liesB : liesAt Tryd.prog Tryd.prog.depth 67 (2 / Tryd.prog.cellsOf 67) 0 67 1 = true := by kernel_rfl
theorem infoB : (Tryd.prog.info? 5).map (fun i => (i.zero, i.size, i.bytes)) = some (some (.int .u8 0), 1, 1) := by kernel_rfl
set_option maxHeartbeats 1000000 in
theorem copy_used (b : Nat) (w : World) (h0 : w.cell? ⟨b, 0, none⟩ = some (.pointer (some ⟨b, 0, none⟩))) : Calls Tryd.prog 58 #[.pointer (some ⟨b, 0, none⟩)] w fun e w' => e = .returned (.tuple #[]) ∧ w' = w := by
  obtain ⟨j, hj, _⟩ := Option.map_eq_some_iff.1 sizeB
  have HJ := Lib.hid hj
  clear hj
  go_enter Tryd.func58, Tryd.ntmps58
  go_wp2_with fail
  rw [Lib.run_neq_ptr_same w _ Tryd.underlying64 HJ.out]
  go_wp2_with fail
  go_end0
  exact ⟨rfl, rfl⟩
set_option maxHeartbeats 1000000 in
theorem copy_fresh (b : Nat) (w : World) (h0 : w.cell? ⟨b, 0, none⟩ = some (.pointer none)) (hsh : w.shape? b = some (67, 2)) (hfz : w.frozen? ⟨b, 0, none⟩ = false) :
    Calls Tryd.prog 58 #[.pointer (some ⟨b, 0, none⟩)] w fun e w' => e = .returned (.tuple #[]) ∧ w' = w.setCell ⟨b, 0, none⟩ (.pointer (some ⟨b, 0, none⟩)) := by
  obtain ⟨j, hj, hjs⟩ := Option.map_eq_some_iff.1 sizeB
  have HJ := Lib.hid hj
  have HS := Lib.hid hjs
  have HH := Lib.hid hsh
  clear hj hjs hsh
  go_enter Tryd.func58, Tryd.ntmps58
  go_wp2_with fail
  go_outline
  rw [Lib.run_to_unsafe w ⟨b, 0, none⟩ Tryd.underlying64 Tryd.underlying112 HJ.out (by rw [HS.out]; decide) HH.out (Nat.zero_lt_succ 1)]
  simp only [Result.andThen]
  rw [Oper.upon_value]
  go_wp2_with fail
  rw [run_callFunc_extern Tryd.func62 (by kernel_rfl) (by kernel_rfl) (by kernel_rfl) (e := Extern.AbiNoEscape.same) (by kernel_rfl)]
  rw [Lib.run_noEscape]
  simp only [Result.andThen]
  rw [Oper.upon_value]
  go_wp2_with fail
  rw [Lib.run_from_unsafe w ⟨b, 0, none⟩ Tryd.underlying112 Tryd.underlying64 HJ.out HH.out liesB]
  simp only [Result.andThen]
  rw [Oper.upon_value]
  go_wp2_with fail
  go_end0
  exact ⟨rfl, rfl⟩
theorem copyCheck_any (B b : Nat) (bs : List Value) (w : World) (h : Lib.IsBuilderF 67 5 B b bs w) :
    Calls Tryd.prog 58 #[.pointer (some ⟨b, 0, none⟩)] w fun e w' => e = .returned (.tuple #[]) ∧ (Lib.BuilderAtF 67 5 B b (.pointer (some ⟨b, 0, none⟩)) bs w' ∧ Below B w w' ∧ Lib.OthersKept 5 (some b) w w') := by
  rcases h with h | h
  · refine (copy_fresh b w h.cell0 h.shape h.frozen0).mono ?_
    rintro e w' ⟨rfl, rfl⟩
    exact ⟨rfl, h.used _, (Below.refl B w).setCell (p := ⟨b, 0, none⟩) h.1 _, (Lib.OthersKept.refl _ _ w).setCell ⟨b, 0, none⟩ rfl _⟩
  · refine (copy_used b w h.cell0).mono ?_
    rintro e w' ⟨rfl, rfl⟩
    exact ⟨rfl, h, Below.refl B _, Lib.OthersKept.refl _ _ _⟩
set_option maxHeartbeats 2000000 in
theorem writeByte_any (B b : Nat) (bs : List Value) (c : Int) (w : World) (h : Lib.IsBuilderF 67 5 B b bs w) (hlen : bs.length + 1 ≤ 140737488355328) (hBw : B ≤ w.heap.size) :
    Calls Tryd.prog 47 #[.pointer (some ⟨b, 0, none⟩), .int .u8 c] w fun e w' => e = .returned .nilIface ∧ (Lib.BuilderAtF 67 5 B b (.pointer (some ⟨b, 0, none⟩)) (bs ++ [.int .u8 c]) w' ∧ Below B w w' ∧ Lib.OthersKept 5 (some b) w w') := by
  obtain ⟨i0, hi, hz0, hz1, hz2⟩ := info_parts infoB
  go_enter Tryd.func47, Tryd.ntmps47
  go_wp2_with (go_at_call 58; refine (copyCheck_any B b bs _ h).mono ?_)
  rintro e w1 ⟨rfl, h1, hb1, hk1⟩
  obtain ⟨hB, v, hbk, hown, hne⟩ := h1
  have c0 : w1.cell? ⟨b, 0, none⟩ = some (.pointer (some ⟨b, 0, none⟩)) := by rw [Lib.cell_of_heap hbk]; rfl
  have c1 : w1.cell? ⟨b, 1, none⟩ = some v := by rw [Lib.cell_of_heap hbk]; rfl
  go_wp2_with (at_builtin; refine wpList_append_ownF _ rfl _ _ 65 rfl B 5 i0 (.int .u8 0) 1 1 Tryd.underlying65 hi hz0 hz1 hz2 rfl (by decide) _ _ _ rfl (hown.alloc _) ⟨w1.heap.size, 0, none⟩ 1 1 [.int .u8 c] rfl rfl ?c1 ?c2 ?c3 ?c4 ?c5 ?_)
  case c1 => exact one_new _ _ _
  case c2 => intro u hu; simp at hu; subst hu; rfl
  case c3 => unfold maxLen; omega
  case c4 => omega
  case c5 => have := hb1.size; simp; omega
  intro v' w2 hown' hgrow _
  have hlt : b < w1.heap.size := by
    rcases Nat.lt_or_ge b w1.heap.size with h' | h'
    · exact h'
    · simp [Array.getElem?_eq_none h'] at hbk
  have hb2 : w2.heap[b]? = some (.cells #[.pointer (some ⟨b, 0, none⟩), v] 67 (0, 0)) := by
    rw [hgrow.block b (by simp; omega) (fun e => hne e.symm), Lib.alloc_old w1 _ b hlt]
    exact hbk
  have d0 : w2.cell? ⟨b, 0, none⟩ = some (.pointer (some ⟨b, 0, none⟩)) := by rw [Lib.cell_of_heap hb2]; rfl
  have d1 : w2.cell? ⟨b, 1, none⟩ = some v := by rw [Lib.cell_of_heap hb2]; rfl
  have f1 : w2.frozen? ⟨b, 1, none⟩ = false := Lib.frozen_of_heap hb2 1
  obtain ⟨g, cap, rfl⟩ : ∃ g cap, v' = .slice (some ⟨g, 0, none⟩) (bs.length + 1) cap := by
    rcases hown'.2 with ⟨_, h0⟩ | ⟨g, cap, cur, fz, hv, _⟩
    · omega
    · exact ⟨g, cap, hv⟩
  go_wp2_with fail
  go_ret
  refine ⟨rfl, ?_, ?_, ((hk1.alloc _).grown hgrow (Lib.ownsRowF_kind (hown.alloc _))).setCell ⟨b, 1, none⟩ rfl _⟩
  · exact Lib.BuilderAtF.put (T := 67) (e := 5) hB hb2 (bs' := bs ++ [.int .u8 c]) (by simpa using hown') (by decide)
  · exact ((hb1.alloc (by have := hb1.size; omega) _).grown hgrow (by have := hb1.size; simp; omega) (fun k hk => (hown.lt k hk).1)).setCell (p := ⟨b, 1, none⟩) hB _
set_option maxHeartbeats 2000000 in
theorem writeString_any (B b : Nat) (bs : List Value) (s : ByteArray) (w : World) (h : Lib.IsBuilderF 67 5 B b bs w) (hlen : bs.length + s.size ≤ 140737488355328) (hBw : B ≤ w.heap.size) :
    Calls Tryd.prog 44 #[.pointer (some ⟨b, 0, none⟩), .string s] w fun e w' => e = .returned (.tuple #[.int .i64 s.size, .nilIface]) ∧ (Lib.BuilderAtF 67 5 B b (.pointer (some ⟨b, 0, none⟩)) (bs ++ Lib.strCells s) w' ∧ Below B w w' ∧ Lib.OthersKept 5 (some b) w w') := by
  obtain ⟨i0, hi, hz0, hz1, hz2⟩ := info_parts infoB
  go_enter Tryd.func44, Tryd.ntmps44
  go_wp2_with (go_at_call 58; refine (copyCheck_any B b bs _ h).mono ?_)
  rintro e w1 ⟨rfl, h1, hb1, hk1⟩
  obtain ⟨hB, v, hbk, hown, hne⟩ := h1
  have c0 : w1.cell? ⟨b, 0, none⟩ = some (.pointer (some ⟨b, 0, none⟩)) := by rw [Lib.cell_of_heap hbk]; rfl
  have c1 : w1.cell? ⟨b, 1, none⟩ = some v := by rw [Lib.cell_of_heap hbk]; rfl
  go_wp2_with (at_builtin; refine Lib.wpList_append_own_stringF _ rfl _ _ 65 9 rfl B 5 i0 Tryd.underlying65 Tryd.underlying9 hi hz0 hz1 hz2 _ _ _ rfl hown s rfl ?c3 ?c4 ?c5 ?_)
  case c3 => unfold maxLen; omega
  case c4 => omega
  case c5 => have := hb1.size; omega
  intro v' w2 hown' hgrow _
  have hlt : b < w1.heap.size := by
    rcases Nat.lt_or_ge b w1.heap.size with h' | h'
    · exact h'
    · simp [Array.getElem?_eq_none h'] at hbk
  have hb2 : w2.heap[b]? = some (.cells #[.pointer (some ⟨b, 0, none⟩), v] 67 (0, 0)) := by
    rw [hgrow.block b hlt (fun e => hne e.symm)]
    exact hbk
  have d0 : w2.cell? ⟨b, 0, none⟩ = some (.pointer (some ⟨b, 0, none⟩)) := by rw [Lib.cell_of_heap hb2]; rfl
  have d1 : w2.cell? ⟨b, 1, none⟩ = some v := by rw [Lib.cell_of_heap hb2]; rfl
  have f1 : w2.frozen? ⟨b, 1, none⟩ = false := Lib.frozen_of_heap hb2 1
  obtain ⟨ao, n', cap, rfl⟩ : ∃ ao n' cap, v' = .slice ao n' cap := by
    rcases hown'.2 with ⟨hv, _⟩ | ⟨g, cap, cur, fz, hv, _⟩
    · exact ⟨_, _, _, hv⟩
    · exact ⟨_, _, _, hv⟩
  go_wp2_with fail
  go_ret2
  refine ⟨rfl, ?_, ?_, (hk1.grown hgrow (Lib.ownsRowF_kind hown)).setCell ⟨b, 1, none⟩ rfl _⟩
  · exact Lib.BuilderAtF.put (T := 67) (e := 5) hB hb2 (bs' := bs ++ Lib.strCells s) (by simpa [Lib.strCells_length] using hown') (by decide)
  · exact (hb1.grown hgrow (by have := hb1.size; omega) (fun k hk => (hown.lt k hk).1)).setCell (p := ⟨b, 1, none⟩) hB _
end

section
open Go.RowKit
set_option maxRecDepth 100000
def Bld (B b : Nat) (l : List UInt8) (w : World) : Prop := Lib.IsBuilderF 67 5 B b (Lib.byteCells l) w
/-- What a writer leaves. -/
def Wrote (B b : Nat) (l : List UInt8) (w w' : World) : Prop := Bld B b l w' ∧ Below B w w' ∧ Lib.OthersKept 5 (some b) w w'
theorem Wrote.trans {B b : Nat} {l l' : List UInt8} {w w' w'' : World} (h : Wrote B b l w w') (k : Wrote B b l' w' w'') : Wrote B b l' w w'' := ⟨k.1, h.2.1.trans k.2.1, h.2.2.trans k.2.2⟩
theorem put_byte (B b : Nat) (l : List UInt8) (x : UInt8) (c : Int) (hc : c = (x.toNat : Int)) (w : World) (h : Bld B b l w) (hlen : l.length + 1 ≤ 140737488355328) (hBw : B ≤ w.heap.size) :
    Calls Tryd.prog 47 #[.pointer (some ⟨b, 0, none⟩), .int .u8 c] w fun e w' => e = .returned .nilIface ∧ Wrote B b (l ++ [x]) w w' := by
  subst hc
  refine (writeByte_any B b _ _ w h (by rw [Lib.byteCells_length]; exact hlen) hBw).mono ?_
  rintro e w' ⟨rfl, h1, h2, h3⟩
  refine ⟨rfl, .inr ?_, h2, h3⟩
  rw [Lib.byteCells_append]
  exact h1
theorem put_str (B b : Nat) (l : List UInt8) (s : ByteArray) (w : World) (h : Bld B b l w) (hlen : l.length + s.size ≤ 140737488355328) (hBw : B ≤ w.heap.size) :
    Calls Tryd.prog 44 #[.pointer (some ⟨b, 0, none⟩), .string s] w fun e w' => e = .returned (.tuple #[.int .i64 s.size, .nilIface]) ∧ Wrote B b (l ++ s.data.toList) w w' := by
  refine (writeString_any B b _ _ w h (by rw [Lib.byteCells_length]; exact hlen) hBw).mono ?_
  rintro e w' ⟨rfl, h1, h2, h3⟩
  refine ⟨rfl, .inr ?_, h2, h3⟩
  rw [Lib.byteCells_append]
  exact h1
def hexL : List UInt8 := [48, 49, 50, 51, 52, 53, 54, 55, 56, 57, 97, 98, 99, 100, 101, 102]
def hexd (n : Nat) : UInt8 := hexL.getD n 0
theorem hex_at (k : Nat) (h : k < (⟨#[48, 49, 50, 51, 52, 53, 54, 55, 56, 57, 97, 98, 99, 100, 101, 102]⟩ : ByteArray).size) :
    (⟨#[48, 49, 50, 51, 52, 53, 54, 55, 56, 57, 97, 98, 99, 100, 101, 102]⟩ : ByteArray)[k] = hexd k := by
  show (#[48, 49, 50, 51, 52, 53, 54, 55, 56, 57, 97, 98, 99, 100, 101, 102] : Array UInt8)[k] = hexL.getD k 0
  have h' : k < hexL.length := h
  rw [List.getD_eq_getElem?_getD, List.getElem?_eq_getElem h']
  rfl
def quoteB (c : UInt8) : List UInt8 := if c.toNat = 34 ∨ c.toNat = 92 then [92, c] else if 32 ≤ c.toNat ∧ c.toNat ≤ 126 then [c] else [92, 120, hexd (c.toNat / 16), hexd (c.toNat % 16)]
def quoteL (l : List UInt8) : List UInt8 := l.flatMap quoteB
theorem quoteB_len (c : UInt8) : (quoteB c).length ≤ 4 := by unfold quoteB; split <;> (try split) <;> simp
theorem quoteL_len (l : List UInt8) : (quoteL l).length ≤ 4 * l.length := by
  induction l with
  | nil => simp [quoteL]
  | cons c r ih => have := quoteB_len c; simp only [quoteL, List.flatMap_cons, List.length_append, List.length_cons] at ih ⊢; omega
def Quoted (B b : Nat) (l : List UInt8) (w : World) (e : Ending) (w' : World) : Prop := e = .returned (.tuple #[]) ∧ Wrote B b l w w'
set_option maxHeartbeats 2000000 in
theorem quote_any (B b : Nat) (l : List UInt8) (s : ByteArray) (w : World) (h : Bld B b l w) (hlen : l.length + (4 * s.size + 2) ≤ 140737488355328) (hBw : B ≤ w.heap.size) :
    Calls Tryd.prog 46 #[.pointer (some ⟨b, 0, none⟩), .string s] w (Quoted B b (l ++ ([34] ++ quoteL s.data.toList ++ [34])) w) := by
  have HB := Lib.hid h
  clear h
  go_enter Tryd.func46, Tryd.ntmps46
  go_wp2_with fail
  refine (put_byte B b l 34 _ rfl _ HB.out (by omega) hBw).mono ?_
  rintro e w0 ⟨rfl, hw0⟩
  have HW0 := Lib.hid hw0
  clear hw0
  go_wp2_with fail
  go_loopw [10] (fun iv wr => ∃ (i : Nat), i ≤ s.size ∧ iv = .int .i64 i ∧ Hid (Wrote B b (l ++ ([34] ++ quoteL (s.data.toList.take i))) w wr))
    (fun i _ => s.size - (intOf i).toNat)
  case atStart => exact ⟨0, by omega, rfl, Lib.hid (by simpa [quoteL] using HW0.out)⟩
  case round =>
    obtain ⟨i, hi, rfl, hw⟩ := hrel
    have hwB : B ≤ wr.heap.size := Nat.le_trans hBw hw.out.2.1.size
    by_cases hlt : i < s.size
    · have hql : (quoteL (s.data.toList.take i)).length ≤ 4 * i := Nat.le_trans (quoteL_len _) (by simp; omega)
      have HQ := Lib.hid hql
      clear hql
      have hstep : quoteL (s.data.toList.take (i + 1)) = quoteL (s.data.toList.take i) ++ quoteB s[i] := by
        rw [List.take_succ_eq_append_getElem (by simpa using hlt), quoteL, List.flatMap_append]; simp [quoteL]; rfl
      have HS := Lib.hid hstep
      clear hstep
      have hmore : ∀ q wz, quoteB s[i] = q → Wrote B b (l ++ ([34] ++ quoteL (s.data.toList.take i)) ++ q) wr wz → Wrote B b (l ++ ([34] ++ quoteL (s.data.toList.take (i + 1)))) w wz := fun q wz e hz => by
        rw [HS.out, e]
        have := hw.out.trans hz
        simpa [List.append_assoc] using this
      have HM := Lib.hid hmore
      clear hmore
      have hlen0 : (l ++ ([34] ++ quoteL (s.data.toList.take i))).length + 4 ≤ 140737488355328 - 1 := by have := HQ.out; simp; omega
      have HL := Lib.hid hlen0
      clear hlen0
      obtain ⟨c, hc⟩ : ∃ c, c = s[i] := ⟨_, rfl⟩
      rw [← hc] at HM
      have h8 : c.toNat < 256 := c.toNat_lt
      have hidx : (s[i].toNat : Int) = (c.toNat : Int) := by rw [hc]
      have HC := Lib.hid hc
      clear hc HS
      by_cases h34 : c.toNat = 34
      · have b1 : ((c.toNat : Int) == 34) = true := by rw [h34]; rfl
        have e1 : quoteB c = [92, c] := if_pos (.inl h34)
        have HE := Lib.hid e1
        have H34 := Lib.hid h34
        clear e1 h34
        go_wp2_with fail
        refine (put_byte B b _ 92 _ rfl _ hw.out.1 (by have := HL.out; omega) hwB).mono ?_
        rintro e w1 ⟨rfl, hw1⟩
        have HW1 := Lib.hid hw1
        clear hw1
        go_wp2_with fail
        refine (put_byte B b _ c _ (by first | rfl | simp [H34.out]) _ HW1.out.1 (by have := HL.out; simp at this ⊢; omega) (Nat.le_trans hwB HW1.out.2.1.size)).mono ?_
        rintro e w2 ⟨rfl, hw2⟩
        have HW2 := Lib.hid (HM.out _ _ HE.out (by simpa using HW1.out.trans hw2))
        clear hw2
        go_wp2_with fail
        go_roundw
        case rel => exact ⟨i + 1, by omega, by go_num, HW2⟩
        case measure => simp [intOf]; omega
      · have n34 : ((c.toNat : Int) == 34) = false := by simpa using (show ¬ (c.toNat : Int) = 34 by omega)
        by_cases h92 : c.toNat = 92
        · have b1 : ((c.toNat : Int) == 92) = true := by rw [h92]; rfl
          have e1 : quoteB c = [92, c] := if_pos (.inr h92)
          have HE := Lib.hid e1
          have H34 := Lib.hid h92
          clear e1 h92 h34
          go_wp2_with fail
          refine (put_byte B b _ 92 _ rfl _ hw.out.1 (by have := HL.out; omega) hwB).mono ?_
          rintro e w1 ⟨rfl, hw1⟩
          have HW1 := Lib.hid hw1
          clear hw1
          go_wp2_with fail
          refine (put_byte B b _ c _ (by first | rfl | simp [H34.out]) _ HW1.out.1 (by have := HL.out; simp at this ⊢; omega) (Nat.le_trans hwB HW1.out.2.1.size)).mono ?_
          rintro e w2 ⟨rfl, hw2⟩
          have HW2 := Lib.hid (HM.out _ _ HE.out (by simpa using HW1.out.trans hw2))
          clear hw2
          go_wp2_with fail
          go_roundw
          case rel => exact ⟨i + 1, by omega, by go_num, HW2⟩
          case measure => simp [intOf]; omega
        · have n92 : ((c.toNat : Int) == 92) = false := by simpa using (show ¬ (c.toNat : Int) = 92 by omega)
          by_cases hp : 32 ≤ c.toNat ∧ c.toNat ≤ 126
          · have e1 : quoteB c = [c] := by unfold quoteB; rw [if_neg (by omega), if_pos hp]
            have HE := Lib.hid e1
            obtain ⟨p1, p2⟩ := hp
            clear e1 h34 h92
            go_wp2_with fail
            refine (put_byte B b _ c _ rfl _ hw.out.1 (by have := HL.out; omega) hwB).mono ?_
            rintro e w1 ⟨rfl, hw1⟩
            have HW2 := Lib.hid (HM.out _ _ HE.out hw1)
            clear hw1
            go_wp2_with fail
            go_roundw
            case rel => exact ⟨i + 1, by omega, by go_num, HW2⟩
            case measure => simp [intOf]; omega
          · have e1 : quoteB c = [92, 120, hexd (c.toNat / 16), hexd (c.toNat % 16)] := by unfold quoteB; rw [if_neg (by omega), if_neg hp]
            have HE := Lib.hid e1
            clear e1 h34 h92
            have hp' : c.toNat < 32 ∨ 126 < c.toNat := by omega
            clear hp
            rcases hp' with hp | hp
            · go_wp2_with fail
              refine (put_str B b _ _ _ hw.out.1 (by have := HL.out; have e2 : (⟨#[92, 120]⟩ : ByteArray).size = 2 := rfl; rw [e2]; omega) hwB).mono ?_
              rintro e w1 ⟨rfl, hw1⟩
              have HW1 : Hid (Wrote B b (l ++ ([34] ++ quoteL (s.data.toList.take i)) ++ [92, 120]) wr w1) := hw1
              clear hw1
              go_wp2_with fail
              refine (put_byte B b _ (hexd (c.toNat / 16)) _ (congrArg (fun x : UInt8 => (x.toNat : Int)) (hex_at _ _)) _ HW1.out.1 (by have := HL.out; simp at this ⊢; omega) (Nat.le_trans hwB HW1.out.2.1.size)).mono ?_
              rintro e w2 ⟨rfl, hw2⟩
              have HW2 := Lib.hid (HW1.out.trans hw2)
              clear hw2
              go_wp2_with fail
              refine (put_byte B b _ (hexd (c.toNat % 16)) _ (congrArg (fun x : UInt8 => (x.toNat : Int)) (hex_at _ _)) _ HW2.out.1 (by have := HL.out; simp at this ⊢; omega) (Nat.le_trans hwB HW2.out.2.1.size)).mono ?_
              rintro e w3 ⟨rfl, hw3⟩
              have HW3 := Lib.hid (HM.out _ _ HE.out (by simpa [List.append_assoc] using HW2.out.trans hw3))
              clear hw3
              go_wp2_with fail
              go_roundw
              case rel => exact ⟨i + 1, by omega, by go_num, HW3⟩
              case measure => simp [intOf]; omega
            · go_wp2_with fail
              refine (put_str B b _ _ _ hw.out.1 (by have := HL.out; have e2 : (⟨#[92, 120]⟩ : ByteArray).size = 2 := rfl; rw [e2]; omega) hwB).mono ?_
              rintro e w1 ⟨rfl, hw1⟩
              have HW1 : Hid (Wrote B b (l ++ ([34] ++ quoteL (s.data.toList.take i)) ++ [92, 120]) wr w1) := hw1
              clear hw1
              go_wp2_with fail
              refine (put_byte B b _ (hexd (c.toNat / 16)) _ (congrArg (fun x : UInt8 => (x.toNat : Int)) (hex_at _ _)) _ HW1.out.1 (by have := HL.out; simp at this ⊢; omega) (Nat.le_trans hwB HW1.out.2.1.size)).mono ?_
              rintro e w2 ⟨rfl, hw2⟩
              have HW2 := Lib.hid (HW1.out.trans hw2)
              clear hw2
              go_wp2_with fail
              refine (put_byte B b _ (hexd (c.toNat % 16)) _ (congrArg (fun x : UInt8 => (x.toNat : Int)) (hex_at _ _)) _ HW2.out.1 (by have := HL.out; simp at this ⊢; omega) (Nat.le_trans hwB HW2.out.2.1.size)).mono ?_
              rintro e w3 ⟨rfl, hw3⟩
              have HW3 := Lib.hid (HM.out _ _ HE.out (by simpa [List.append_assoc] using HW2.out.trans hw3))
              clear hw3
              go_wp2_with fail
              go_roundw
              case rel => exact ⟨i + 1, by omega, by go_num, HW3⟩
              case measure => simp [intOf]; omega
    · have hlast : i = s.size := by omega
      have e1 : s.data.toList.take i = s.data.toList := List.take_of_length_le (by simp; omega)
      have HQ := Lib.hid (quoteL_len s.data.toList)
      have HE := Lib.hid e1
      clear e1 hlast
      go_wp2_with fail
      refine (put_byte B b _ 34 _ rfl _ hw.out.1 (by rw [HE.out]; have := HQ.out; simp at this ⊢; omega) hwB).mono ?_
      rintro e w1 ⟨rfl, hw1⟩
      have HW1 := Lib.hid (hw.out.trans hw1)
      clear hw1
      go_wp2_with fail
      go_end0
      exact ⟨rfl, by have := HW1.out; rw [HE.out] at this; simpa [List.append_assoc] using this⟩
end

section
open Go.RowKit
set_option maxRecDepth 100000
/-- The listed variables as they were laid. -/
def Tabs (w : World) : Prop := Lib.TabIs Tryd.prog w "internal/strconv.uint64pow10" .u64 Lib.pow10Tab ∧ (∃ tp p, w.var? Tryd.prog "strconv.ErrSyntax" = some #[.iface tp p]) ∧ (∃ tp p, w.var? Tryd.prog "strconv.ErrRange" = some #[.iface tp p])
theorem g_pow : Tryd.prog.globalNamed "internal/strconv.uint64pow10" = some 0 := by kernel_rfl
theorem g_syn : Tryd.prog.globalNamed "strconv.ErrSyntax" = some 1 := by kernel_rfl
theorem g_ran : Tryd.prog.globalNamed "strconv.ErrRange" = some 2 := by kernel_rfl
theorem Tabs.below {B : Nat} {w w' : World} (h : Tabs w) (hb : Below B w w') (hB : 5 ≤ B) : Tabs w' := by
  obtain ⟨h1, ⟨tp, p, h2⟩, tq, q, h3⟩ := h
  exact ⟨var?_below hb g_pow (by omega) h1, ⟨tp, p, var?_below hb g_syn (by omega) h2⟩, tq, q, var?_below hb g_ran (by omega) h3⟩
mutual
def okV : VT → Prop
  | .unit => True
  | .truth _ => True
  | .int n => -9223372036854775808 ≤ n ∧ n ≤ 9223372036854775807
  | .text _ => True
  | .list l => okVs l
def okVs : List VT → Prop
  | [] => True
  | t :: r => okV t ∧ okVs r
end
mutual
/-- A value's text. -/
def enc : VT → List UInt8
  | .unit => [117, 110, 105, 116]
  | .truth b => if b then [121, 101, 115] else [110, 111]
  | .int n => Lib.itoa n
  | .text s => [34] ++ quoteL s.data.toList ++ [34]
  | .list l => [91] ++ encL l ++ [93]
def encL : List VT → List UInt8
  | [] => []
  | t :: r => enc t ++ encR r
def encR : List VT → List UInt8
  | [] => []
  | t :: r => [44, 32] ++ (enc t ++ encR r)
end
mutual
/-- No longer than this. -/
def encB : VT → Nat
  | .unit => 4
  | .truth _ => 3
  | .int _ => 20
  | .text s => 4 * s.size + 2
  | .list l => 2 + encBs l
def encBs : List VT → Nat
  | [] => 0
  | t :: r => encB t + 2 + encBs r
end
theorem encR_snoc : ∀ (l : List VT) (t : VT), encR (l ++ [t]) = encR l ++ ([44, 32] ++ enc t)
  | [], t => by simp [encR]
  | x :: r, t => by simp only [List.cons_append, encR, encR_snoc r t, List.append_assoc]
theorem encL_snoc (l : List VT) (t : VT) (h : l ≠ []) : encL (l ++ [t]) = encL l ++ ([44, 32] ++ enc t) := by
  cases l with
  | nil => exact absurd rfl h
  | cons x r => simp only [List.cons_append, encL, encR_snoc r t, List.append_assoc]
theorem encBs_take : ∀ (l : List VT) (i : Nat) (h : i < l.length), encBs (l.take i) + (encB l[i] + 2) ≤ encBs l
  | x :: r, 0, h => by simp [encBs]
  | x :: r, i + 1, h => by
    have := encBs_take r i (by simpa using h)
    simp only [List.take_succ_cons, encBs, List.getElem_cons_succ] at this ⊢
    omega
theorem digits_len : ∀ (k u : Nat), u < 10 ^ (k + 1) → (Lib.decDigits u).length ≤ k + 1
  | 0, u, h => by unfold Lib.decDigits; rw [dif_pos (by simpa using h)]; exact Nat.le_refl _
  | k + 1, u, h => by
    unfold Lib.decDigits
    split
    · simp
    · have := digits_len k (u / 10) (by rw [Nat.div_lt_iff_lt_mul (by omega)]; rw [Nat.pow_succ] at h; omega)
      simp; omega
theorem itoa_len {n : Int} (h : -9223372036854775808 ≤ n ∧ n ≤ 9223372036854775807) : (Lib.itoa n).length ≤ 20 := by
  unfold Lib.itoa
  split
  · have := digits_len 18 n.natAbs (by omega)
    simp; omega
  · have := digits_len 18 n.toNat (by omega)
    omega
mutual
theorem enc_len : ∀ t : VT, okV t → (enc t).length ≤ encB t
  | .unit, _ => by simp [enc, encB]
  | .truth b, _ => by cases b <;> simp [enc, encB]
  | .int n, h => by simp only [enc, encB]; exact itoa_len h
  | .text s, _ => by have := quoteL_len s.data.toList; simp [enc, encB] at this ⊢; omega
  | .list l, h => by have := encL_len l h; simp [enc, encB]; omega
theorem encL_len : ∀ l : List VT, okVs l → (encL l).length ≤ encBs l
  | [], _ => by simp [encL, encBs]
  | t :: r, h => by have h1 := enc_len t h.1; have h2 := encR_len r h.2; simp [encL, encBs]; omega
theorem encR_len : ∀ l : List VT, okVs l → (encR l).length ≤ encBs l
  | [], _ => by simp [encR, encBs]
  | t :: r, h => by have h1 := enc_len t h.1; have h2 := encR_len r h.2; simp [encR, encBs]; omega
end
theorem okVs_take : ∀ (l : List VT) (i : Nat), okVs l → okVs (l.take i)
  | [], i, h => by simp [okVs]
  | t :: r, 0, h => by simp [okVs]
  | t :: r, i + 1, h => by simp only [List.take_succ_cons, okVs] at h ⊢; exact ⟨h.1, okVs_take r i h.2⟩
theorem okVs_get : ∀ (l : List VT) (i : Nat) (h : i < l.length), okVs l → okV l[i]
  | t :: r, 0, h, ho => ho.1
  | t :: r, i + 1, h, ho => okVs_get r i (by simpa using h) ho.2
/-- Behind a writer the value stands. -/
theorem ownsRow_others {w w' : World} {n : Nat} {v : Value} {xs : List Value} {b : Nat} (h : w.ownsRow 0 30 1 v n xs) (hb : v.ownBlock ≠ some b) (hk : Lib.OthersKept 5 (some b) w w') : w'.ownsRow 0 30 1 v n xs := by
  refine ⟨h.1, ?_⟩
  rcases h.2 with hn | ⟨g, cap, cur, rfl, hb', hgg, rest⟩
  · exact .inl hn
  · exact .inr ⟨g, cap, cur, rfl, hb', hk g _ hgg (fun e => hb (by simpa [Value.ownBlock] using e)) (fun c fz e => by simp at e), rest⟩
mutual
theorem RepV.others {w w' : World} {b : Nat} (hk : Lib.OthersKept 5 (some b) w w') : ∀ (t : VT) (v : Value) (bs : List Nat), b ∉ bs → RepV w t v bs → RepV w' t v bs
  | .unit, v, bs, hb, h => h
  | .truth _, v, bs, hb, h => h
  | .int n, v, bs, hb, h => h
  | .text s, v, bs, hb, h => h
  | .list l, v, bs, hb, h => by
    obtain ⟨sv, vs, bl, h1, h2, h3, rfl⟩ := h
    exact ⟨sv, vs, bl, h1, ownsRow_others h2 (fun e => hb (by simp [e])) hk, RepVs.others hk l vs bl (fun e => hb (by simp [e])) h3, rfl⟩
theorem RepVs.others {w w' : World} {b : Nat} (hk : Lib.OthersKept 5 (some b) w w') : ∀ (l : List VT) (vs : List Value) (bs : List Nat), b ∉ bs → RepVs w l vs bs → RepVs w' l vs bs
  | [], vs, bs, hb, h => h
  | t :: r, vs, bs, hb, h => by
    obtain ⟨v, vr, b', br, h1, rfl, h3, h4⟩ := h
    exact ⟨v, vr, b', br, h1, rfl, RepV.others hk t v b' (fun e => hb (by simp [e])) h3, RepVs.others hk r vr br (fun e => hb (by simp [e])) h4⟩
end
end

section
open Go.RowKit
set_option maxRecDepth 100000
def WriteFor (t : VT) : Prop := ∀ (B b : Nat) (v : Value) (bs : List Nat) (l : List UInt8) (w : World), okV t → RepV w t v bs → b ∉ bs → Bld B b l w → l.length + encB t ≤ 140737488355327 → B ≤ w.heap.size → 5 ≤ B → Tabs w →
  Calls Tryd.prog 30 #[.pointer (some ⟨b, 0, none⟩), v] w (Quoted B b (l ++ enc t) w)
theorem Bld.alloc {B b : Nat} {l : List UInt8} {w : World} (h : Bld B b l w) (o : Obj) : Bld B b l (w.alloc o) := Lib.IsBuilderF.alloc h o
theorem Wrote.refl {B b : Nat} {l : List UInt8} {w : World} (h : Bld B b l w) : Wrote B b l w w := ⟨h, Below.refl _ _, Lib.OthersKept.refl _ _ _⟩
theorem Wrote.allocd {B b : Nat} {l : List UInt8} {w : World} (h : Bld B b l w) (hB : B ≤ w.heap.size) (o : Obj) : Wrote B b l w (w.alloc o) := ⟨h.alloc o, (Below.refl _ _).alloc hB _, (Lib.OthersKept.refl _ _ _).alloc o⟩
variable (B b : Nat) (l : List UInt8) (w : World)
set_option maxHeartbeats 2000000 in
theorem w_unit (h : Bld B b l w) (hl : l.length + 4 ≤ 140737488355327) (hB : B ≤ w.heap.size) : Calls Tryd.prog 30 #[.pointer (some ⟨b, 0, none⟩), .iface 90 (.agg #[])] w (Quoted B b (l ++ enc .unit) w) := by
  have H := Lib.hid h
  clear h
  go_enter Tryd.func30, Tryd.ntmps30
  go_wp2_with fail
  refine (put_str B b l _ _ (H.out.alloc _) (by have e : (⟨#[117, 110, 105, 116]⟩ : ByteArray).size = 4 := rfl; rw [e]; omega) (by simp; omega)).mono ?_
  rintro e w1 ⟨rfl, hw1⟩
  have HW := Lib.hid ((Wrote.allocd H.out hB _).trans hw1)
  clear hw1
  go_wp2_with fail
  go_end0
  exact ⟨rfl, HW.out⟩
set_option maxHeartbeats 2000000 in
theorem w_yes (h : Bld B b l w) (hl : l.length + 3 ≤ 140737488355327) (hB : B ≤ w.heap.size) : Calls Tryd.prog 30 #[.pointer (some ⟨b, 0, none⟩), .iface 63 (.bool true)] w (Quoted B b (l ++ enc (.truth true)) w) := by
  have H := Lib.hid h
  clear h
  go_enter Tryd.func30, Tryd.ntmps30
  go_wp2_with fail
  refine (put_str B b l _ _ H.out (by have e : (⟨#[121, 101, 115]⟩ : ByteArray).size = 3 := rfl; rw [e]; omega) hB).mono ?_
  rintro e w1 ⟨rfl, hw1⟩
  have HW := Lib.hid hw1
  clear hw1
  go_wp2_with fail
  go_end0
  exact ⟨rfl, HW.out⟩
set_option maxHeartbeats 2000000 in
theorem w_no (h : Bld B b l w) (hl : l.length + 3 ≤ 140737488355327) (hB : B ≤ w.heap.size) : Calls Tryd.prog 30 #[.pointer (some ⟨b, 0, none⟩), .iface 63 (.bool false)] w (Quoted B b (l ++ enc (.truth false)) w) := by
  have H := Lib.hid h
  clear h
  go_enter Tryd.func30, Tryd.ntmps30
  go_wp2_with fail
  refine (put_str B b l _ _ H.out (by have e : (⟨#[110, 111]⟩ : ByteArray).size = 2 := rfl; rw [e]; omega) hB).mono ?_
  rintro e w1 ⟨rfl, hw1⟩
  have HW := Lib.hid hw1
  clear hw1
  go_wp2_with fail
  go_end0
  exact ⟨rfl, HW.out⟩
theorem size_mk (l : List UInt8) : (⟨l.toArray⟩ : ByteArray).size = l.length := by simp [ByteArray.size]
theorem grow_below {w w' : World} {B : Nat} (hB : B ≤ w.heap.size) (h : ∃ k os, w' = «Sort».grow (w.drewN k) os) : Below B w w' := by
  obtain ⟨k, os, rfl⟩ := h
  exact ⟨rfl, rfl, rfl, by simp [«Sort».grow], fun g hg => by show (w.heap ++ os)[g]? = _; rw [Array.getElem?_append_left (by omega)]⟩
theorem grow_kept {w w' : World} {b : Nat} (h : ∃ k os, w' = «Sort».grow (w.drewN k) os) : Lib.OthersKept 5 (some b) w w' := by
  obtain ⟨k, os, rfl⟩ := h
  intro g o hg _ _
  show (w.heap ++ os)[g]? = _
  rw [Array.getElem?_append_left (Array.getElem?_eq_some_iff.1 hg).1]
  exact hg
theorem grow_bld {w w' : World} {B b : Nat} {l : List UInt8} (hb : Bld B b l w) (h : ∃ k os, w' = «Sort».grow (w.drewN k) os) : Bld B b l w' := by
  obtain ⟨k, os, rfl⟩ := h
  have hk : ∀ g, g < w.heap.size → («Sort».grow (w.drewN k) os).heap[g]? = w.heap[g]? := fun g hg => by
    show (w.heap ++ os)[g]? = _
    rw [Array.getElem?_append_left hg]
  have key : ∀ p, Lib.BuilderAtF 67 5 B b p (Lib.byteCells l) w → Lib.BuilderAtF 67 5 B b p (Lib.byteCells l) («Sort».grow (w.drewN k) os) := by
    rintro p ⟨h1, v, h2, h3, h4⟩
    refine ⟨h1, v, by rw [hk b (Array.getElem?_eq_some_iff.1 h2).1]; exact h2, ⟨h3.1, ?_⟩, h4⟩
    rcases h3.2 with hn | ⟨g, cap, cur, fz, hv, hbg, hg, rest⟩
    · exact .inl hn
    · exact .inr ⟨g, cap, cur, fz, hv, hbg, by rw [hk g (Array.getElem?_eq_some_iff.1 hg).1]; exact hg, rest⟩
  exact hb.imp (key _) (key _)
set_option maxHeartbeats 2000000 in
theorem w_int (n : Int) (hn : -9223372036854775808 ≤ n ∧ n ≤ 9223372036854775807) (h : Bld B b l w) (hl : l.length + 20 ≤ 140737488355327) (hB : B ≤ w.heap.size) (ht : Tabs w) :
    Calls Tryd.prog 30 #[.pointer (some ⟨b, 0, none⟩), .iface 58 (.int .i64 n)] w (Quoted B b (l ++ enc (.int n)) w) := by
  have H := Lib.hid h
  have HT := Lib.hid ht
  have HL := Lib.hid (itoa_len hn)
  clear h ht
  obtain ⟨n0, n1⟩ := hn
  go_enter Tryd.func30, Tryd.ntmps30
  go_wp2_with fail
  refine (Tryd.strconv_FormatInt_10 n n0 n1 _ HT.out.1).mono ?_
  rintro e w1 ⟨rfl, hg⟩
  have HG := Lib.hid hg
  clear hg
  go_wp2_with fail
  refine (put_str B b l _ _ (grow_bld H.out HG.out) (by rw [size_mk]; have := HL.out; omega) (Nat.le_trans hB (grow_below hB HG.out).size)).mono ?_
  rintro e w2 ⟨rfl, hw⟩
  have HW : Hid (Wrote B b (l ++ Lib.itoa n) w1 w2) := hw
  clear hw
  go_wp2_with fail
  go_end0
  exact ⟨rfl, HW.out.1, (grow_below hB HG.out).trans HW.out.2.1, (grow_kept HG.out).trans HW.out.2.2⟩
set_option maxHeartbeats 2000000 in
theorem w_text (s : ByteArray) (h : Bld B b l w) (hl : l.length + (4 * s.size + 2) ≤ 140737488355327) (hB : B ≤ w.heap.size) :
    Calls Tryd.prog 30 #[.pointer (some ⟨b, 0, none⟩), .iface 88 (.string s)] w (Quoted B b (l ++ enc (.text s)) w) := by
  have H := Lib.hid h
  clear h
  go_enter Tryd.func30, Tryd.ntmps30
  go_wp2_with fail
  refine (quote_any B b l s _ H.out (by omega) hB).mono ?_
  rintro e w1 ⟨rfl, hw1⟩
  have HW := Lib.hid hw1
  clear hw1
  go_wp2_with fail
  go_end0
  exact ⟨rfl, HW.out⟩
end

section
open Go.RowKit
set_option maxRecDepth 100000
theorem own_cells_others {w w' : World} {sv : Value} {n b : Nat} {vs : List Value} (h : w.ownsRow 0 30 1 sv n vs) (hb : sv.ownBlock ≠ some b) (hk : Lib.OthersKept 5 (some b) w w') : w'.ownsRow 0 30 1 sv n vs := ownsRow_others h hb hk
theorem encL_take_succ (ts : List VT) (i : Nat) (h : i < ts.length) : encL (ts.take (i + 1)) = encL (ts.take i) ++ ((if 0 < i then [44, 32] else []) ++ enc ts[i]) := by
  rw [List.take_succ_eq_append_getElem h]
  by_cases h0 : 0 < i
  · rw [if_pos h0, encL_snoc _ _ (by intro e; have := congrArg List.length e; simp only [List.length_take, List.length_nil] at this; omega)]
  · have : i = 0 := by omega
    subst this
    simp [encL, encR]
set_option maxHeartbeats 4000000 in
theorem w_list (B b : Nat) (l : List UInt8) (w : World) (ts : List VT) (ih : ∀ t ∈ ts, WriteFor t) (v : Value) (bs : List Nat) (ho : okVs ts) (hv : RepV w (.list ts) v bs) (hbs : b ∉ bs) (h : Bld B b l w)
    (hl : l.length + (2 + encBs ts) ≤ 140737488355327) (hB : B ≤ w.heap.size) (h5 : 5 ≤ B) (ht : Tabs w) :
    Calls Tryd.prog 30 #[.pointer (some ⟨b, 0, none⟩), v] w (Quoted B b (l ++ enc (.list ts)) w) := by
  obtain ⟨sv, vs, bl, rfl, hown, hr, rfl⟩ := hv
  have hsb : sv.ownBlock ≠ some b := fun e => hbs (by simp [e])
  have hbl : b ∉ bl := fun e => hbs (by simp [e])
  obtain ⟨la, lc, rfl, hmx, hca⟩ := own_cells hown
  have HO := Lib.hid hown
  have HSB := Lib.hid hsb
  have HBL := Lib.hid hbl
  have HIH := Lib.hid ih
  have HOK := Lib.hid ho
  have HR := Lib.hid hr
  have H := Lib.hid h
  have HT := Lib.hid ht
  clear hca hown hsb hbl ih ho hr h ht hbs
  go_enter Tryd.func30, Tryd.ntmps30
  go_wp2_with fail
  refine (put_byte B b l 91 _ rfl _ H.out (by omega) hB).mono ?_
  rintro e w0 ⟨rfl, hw0⟩
  have HW0 := Lib.hid hw0
  clear hw0
  go_wp2_with fail
  go_loopw [45] (fun iv wr => ∃ (i : Nat), i ≤ ts.length ∧ iv = .int .i64 i ∧ Hid (Wrote B b (l ++ ([91] ++ encL (ts.take i))) w wr))
    (fun i _ => ts.length - (intOf i).toNat)
  case atStart => exact ⟨0, by omega, rfl, Lib.hid (by simpa [encL] using HW0.out)⟩
  case round =>
    obtain ⟨i, hi, rfl, hw⟩ := hrel
    have hwB : B ≤ wr.heap.size := Nat.le_trans hB hw.out.2.1.size
    by_cases hlt : i < ts.length
    · obtain ⟨la', lc', e', _, hca⟩ := own_cells (own_cells_others HO.out HSB.out hw.out.2.2)
      obtain ⟨rfl, rfl⟩ : la = la' ∧ lc = lc' := by simpa using e'
      clear e'
      obtain ⟨g, rfl, hg⟩ := hca (by omega)
      obtain ⟨x, bx, hx, hrx, hbx⟩ := RepVs.get _ _ _ HR.out i hlt
      have c1 : wr.cell? ⟨g, i, none⟩ = some x := hg i x hx
      obtain ⟨tx, ux, rfl⟩ := hrx.iface
      have HRX := Lib.hid (RepV.others hw.out.2.2 _ _ _ (fun e => HBL.out (hbx b e)) hrx)
      have HBX : Hid (b ∉ bx) := Lib.hid (fun e => HBL.out (hbx b e))
      have HS := Lib.hid (encL_take_succ ts i hlt)
      have hlen : (encL (ts.take i)).length + (encB ts[i] + 2) ≤ encBs ts := Nat.le_trans (by have := encL_len _ (okVs_take ts i HOK.out); omega) (encBs_take ts i hlt)
      have HL := Lib.hid hlen
      have HOI := Lib.hid (okVs_get ts i hlt HOK.out)
      have HII := Lib.hid (HIH.out ts[i] (List.getElem_mem hlt))
      clear hg hca hx hrx hbx hlen
      by_cases h0 : 0 < i
      · go_wp2_with fail
        refine (put_str B b _ _ _ hw.out.1 (by have e : (⟨#[44, 32]⟩ : ByteArray).size = 2 := rfl; rw [e]; have := HL.out; simp; omega) hwB).mono ?_
        rintro e w1 ⟨rfl, hw1⟩
        have HW1 : Hid (Wrote B b (l ++ ([91] ++ encL (ts.take i)) ++ [44, 32]) wr w1) := hw1
        clear hw1
        go_wp2_with fail
        refine (HII.out B b _ bx _ w1 HOI.out (RepV.others HW1.out.2.2 _ _ _ HBX.out HRX.out) HBX.out HW1.out.1 (by have := HL.out; simp; omega) (Nat.le_trans hwB HW1.out.2.1.size) h5 (HT.out.below (hw.out.2.1.trans HW1.out.2.1) h5)).mono ?_
        rintro e w2 ⟨rfl, hw2⟩
        have HW2 : Hid (Wrote B b (l ++ ([91] ++ encL (ts.take (i + 1)))) w w2) := by
          have h9 := hw.out.trans (HW1.out.trans hw2)
          show Wrote _ _ _ _ _
          rw [HS.out, if_pos h0]
          simpa [List.append_assoc] using h9
        clear hw2
        go_wp2_with fail
        go_roundw
        case rel => exact ⟨i + 1, by omega, by go_num, HW2⟩
        case measure => simp [intOf]; omega
      · obtain rfl : i = 0 := by omega
        go_wp2_with fail
        refine (HII.out B b _ bx _ wr HOI.out HRX.out HBX.out hw.out.1 (by have := HL.out; simp at this ⊢; omega) hwB h5 (HT.out.below hw.out.2.1 h5)).mono ?_
        rintro e w2 ⟨rfl, hw2⟩
        have HW2 : Hid (Wrote B b (l ++ ([91] ++ encL (ts.take (0 + 1)))) w w2) := by
          have h9 := hw.out.trans hw2
          show Wrote _ _ _ _ _
          rw [HS.out, if_neg (by omega)]
          simpa [List.append_assoc] using h9
        clear hw2
        go_wp2_with fail
        go_roundw
        case rel => exact ⟨0 + 1, by omega, by go_num, HW2⟩
        case measure => simp [intOf]; omega
    · have e1 : ts.take i = ts := List.take_of_length_le (by omega)
      have HE := Lib.hid e1
      have HL := Lib.hid (encL_len ts HOK.out)
      clear e1
      go_wp2_with fail
      refine (put_byte B b _ 93 _ rfl _ hw.out.1 (by rw [HE.out]; have := HL.out; simp; omega) hwB).mono ?_
      rintro e w1 ⟨rfl, hw1⟩
      have HW1 := Lib.hid (hw.out.trans hw1)
      clear hw1
      go_wp2_with fail
      go_end0
      exact ⟨rfl, by have := HW1.out; rw [HE.out] at this; simpa [enc, List.append_assoc] using this⟩
mutual
theorem write_any : ∀ t : VT, WriteFor t
  | .unit => by
    intro B b v bs l w ho hv hb h hl hB h5 ht
    obtain ⟨rfl, _⟩ := hv
    exact w_unit B b l w h hl hB
  | .truth p => by
    intro B b v bs l w ho hv hb h hl hB h5 ht
    obtain ⟨rfl, _⟩ := hv
    cases p
    · exact w_no B b l w h hl hB
    · exact w_yes B b l w h hl hB
  | .int n => by
    intro B b v bs l w ho hv hb h hl hB h5 ht
    obtain ⟨rfl, _⟩ := hv
    exact w_int B b l w n ho h hl hB ht
  | .text s => by
    intro B b v bs l w ho hv hb h hl hB h5 ht
    obtain ⟨rfl, _⟩ := hv
    exact w_text B b l w s h hl hB
  | .list ts => by
    have ih := write_all ts
    intro B b v bs l w ho hv hb h hl hB h5 ht
    exact w_list B b l w ts ih v bs ho hv hb h hl hB h5 ht
theorem write_all : ∀ l : List VT, ∀ t ∈ l, WriteFor t
  | [], t, h => by simp at h
  | q :: r, t, h => by
    have h1 := write_any q
    have h2 := write_all r
    rcases List.mem_cons.1 h with rfl | h
    · exact h1
    · exact h2 t h
end
end

section
open Go.RowKit
set_option maxRecDepth 100000
mutual
def okP : PT → Prop
  | .mk _ n _ l => (-9223372036854775808 ≤ n ∧ n ≤ 9223372036854775807) ∧ okPs l
def okPs : List PT → Prop
  | [] => True
  | p :: r => okP p ∧ okPs r
end
mutual
theorem okV_of : ∀ p : PT, okP p → okV (valOf p)
  | .mk k n s l, h => by
    unfold valOf
    split
    · trivial
    · split
      · trivial
      · split
        · exact h.1
        · split
          · trivial
          · exact okVs_of l h.2
theorem okVs_of : ∀ l : List PT, okPs l → okVs (valsOf l)
  | [], _ => trivial
  | p :: r, h => ⟨okV_of p h.1, okVs_of r h.2⟩
end
mutual
theorem encB_bd : ∀ (p : PT) (left deep : Int), (meas p left deep).2 = true → (encB (valOf p) : Int) + 2 ≤ 22 * (meas p left deep).1
  | .mk k n s l, left, deep, h => by
    have ih := encBs_bd l left (deep + 1) 1
    unfold meas at h ⊢
    unfold valOf
    split at h
    · simp at h
    · rename_i h0
      rw [if_neg h0]
      by_cases h1 : k = 1
      · rw [if_pos h1, if_pos h1]; simp [encB]
      · rw [if_neg h1] at h; rw [if_neg h1, if_neg h1]
        by_cases h2 : k = 2
        · rw [if_pos h2, if_pos h2]; simp [encB]
        · rw [if_neg h2] at h; rw [if_neg h2, if_neg h2]
          by_cases h3 : k = 3
          · rw [if_pos h3, if_pos h3]; simp [encB]
          · rw [if_neg h3] at h; rw [if_neg h3, if_neg h3]
            by_cases h4 : k = 4
            · rw [if_pos h4, if_pos h4]; simp only [encB]; omega
            · rw [if_neg h4] at h; rw [if_neg h4, if_neg h4]
              by_cases h5 : k = 5
              · rw [if_pos h5] at h; rw [if_pos h5]
                split at h
                · simp at h
                · rename_i h6
                  rw [if_neg h6]
                  have := ih h
                  simp only [encB]; omega
              · rw [if_neg h5] at h; simp at h
theorem encBs_bd : ∀ (l : List PT) (left deep n : Int), (measL l left deep n).2 = true → (encBs (valsOf l) : Int) + 22 * n ≤ 22 * (measL l left deep n).1
  | [], left, deep, n, h => by simp [valsOf, encBs, measL]
  | p :: r, left, deep, n, h => by
    simp only [measL] at h ⊢
    split at h
    · rename_i hp
      rw [if_pos hp]
      have h1 := encB_bd p (left - n) deep hp
      have h2 := encBs_bd r left deep _ h
      simp only [valsOf, encBs]
      omega
    · simp at h
end
theorem encB_may {p : PT} (h : mayP p = true) : encB (valOf p) ≤ 1441790 := by
  have h1 := encB_bd p 65536 0 h
  have h2 := (meas_bd p 65536 0 h).2
  omega
def textP (p : PT) : List UInt8 × Int := if mayP p then (if 1048576 < (enc (valOf p)).length then ([], 2) else (enc (valOf p), 0)) else ([], 1)
def TextE (w : World) (r : List UInt8 × Int) (e : Ending) (w' : World) : Prop := e = .returned (.tuple #[.string ⟨r.1.toArray⟩, .int .i64 r.2]) ∧ Below w.heap.size w w'
theorem Bld.fresh (w : World) : Bld w.heap.size w.heap.size [] (w.alloc (.cells #[.pointer none, .slice none 0 0] 67)) := Lib.IsBuilderF.of (Lib.fresh_isBuilder 67 5 w)
theorem Bld.keep {B b : Nat} {l : List UInt8} {w w' : World} (h : Bld B b l w) (hb : Below w.heap.size w w') : Bld B b l w' := by
  have hk : ∀ g o, w.heap[g]? = some o → w'.heap[g]? = some o := fun g o hg => by rw [hb.block g (Array.getElem?_eq_some_iff.1 hg).1]; exact hg
  have key : ∀ p, Lib.BuilderAtF 67 5 B b p (Lib.byteCells l) w → Lib.BuilderAtF 67 5 B b p (Lib.byteCells l) w' := by
    rintro p ⟨h1, v, h2, h3, h4⟩
    refine ⟨h1, v, hk _ _ h2, ⟨h3.1, ?_⟩, h4⟩
    rcases h3.2 with hn | ⟨g, cap, cur, fz, hv, hbg, hg, rest⟩
    · exact .inl hn
    · exact .inr ⟨g, cap, cur, fz, hv, hbg, hk _ _ hg, rest⟩
  exact h.imp (key _) (key _)
set_option maxHeartbeats 2000000 in
theorem text_any (p : PT) (w : World) (v : Value) (hv : ArgP w p v) (ho : okP p) (ht : Tabs w) (h5 : 5 ≤ w.heap.size) : Calls Tryd.prog 9 #[v] w (TextE w (textP p)) := by
  cases p with
  | mk k n s l =>
    have hv2 := hv
    obtain ⟨_, _, la, lc, rfl, _⟩ := hv2
    have HV := Lib.hid hv
    have HO := Lib.hid ho
    have HT := Lib.hid ht
    have hc0 : CellsP (w.alloc (.cells #[.int .i64 k, .int .i64 n, .string s, .slice la l.length lc] 24)) w.heap.size 0 k n s la l.length lc := cells_new w _ _ _ _ _
    have HC := Lib.hid hc0
    have HE : Hid (textP (.mk k n s l) = if mayP (.mk k n s l) then (if 1048576 < (enc (valOf (.mk k n s l))).length then ([], 2) else (enc (valOf (.mk k n s l)), 0)) else ([], 1)) := Lib.hid rfl
    have HB := Lib.hid (@encB_may (.mk k n s l))
    clear hv hc0 ho ht
    go_enter Tryd.func9, Tryd.ntmps9
    go_wp2_with fail
    refine (may_any _ _ _ (HV.out.below (alloc_below w _))).mono ?_
    rintro e w1 ⟨rfl, hb1⟩
    have hB1 := (alloc_below w _).trans (hb1.mono (by simp))
    have HC1 := Lib.hid (HC.out.below hb1)
    cases hm : mayP (.mk k n s l)
    · rw [hm] at HE
      clear hm
      go_wp2_with fail
      go_ret2
      exact ⟨by rw [HE.out]; rfl, hB1⟩
    · rw [hm] at HE
      have HBB := Lib.hid (HB.out hm)
      clear hm
      go_wp2_with fail
      have HF := Lib.hid (Bld.fresh w1)
      have hB2 : Below w.heap.size w (w1.alloc (.cells #[.pointer none, .slice none 0 0] 67)) := hB1.alloc hB1.size _
      have H1 := Lib.hid (arg_box HV.out hB2 (HC1.out.below (alloc_below w1 _)))
      refine (value_any _ _ _ _ H1.out).mono ?_
      rintro e w2 ⟨x, bs, rfl, hx, hnd, hge, hb2⟩
      have HX := Lib.hid hx
      have hnb : w1.heap.size ∉ bs := fun hm => by have := hge _ hm; simp at this; omega
      have HNB := Lib.hid hnb
      have HF2 := Lib.hid (HF.out.keep hb2)
      have hs1 := hB1.size
      have hs2 : w1.heap.size + 1 ≤ w2.heap.size := by have := hb2.size; simp at this; omega
      have hB3 : Below w.heap.size w w2 := hB2.trans (hb2.mono (by simp; omega))
      have hB31 : Below w1.heap.size w1 w2 := (alloc_below w1 _).trans (hb2.mono (by simp))
      clear hx hnd hge hnb
      go_wp2_with fail
      refine (write_any _ w1.heap.size w1.heap.size x bs [] w2 (okV_of _ HO.out) HX.out HNB.out HF2.out (by have := HBB.out; simp; omega) (by omega) (by omega) (HT.out.below hB3 h5)).mono ?_
      rintro e w3 ⟨rfl, hw3⟩
      have HW3 := Lib.hid hw3
      clear hw3
      have hB4 : Below w.heap.size w w3 := hB3.trans (HW3.out.2.1.mono hs1)
      go_wp2_with fail
      refine (Tryd.Builder_Len_f _ _ _ w3 HW3.out.1).mono ?_
      rintro e w4 ⟨rfl, rfl⟩
      rw [Lib.byteCells_length, List.nil_append]
      by_cases hlong : 1048576 < (enc (valOf (.mk k n s l))).length
      · rw [if_pos trivial, if_pos hlong] at HE
        go_wp2_with fail
        go_ret2
        exact ⟨by rw [HE.out]; rfl, hB4⟩
      · rw [if_pos trivial, if_neg hlong] at HE
        go_wp2_with fail
        refine (Tryd.Builder_String_any_k _ _ _ _ HW3.out.1 (by have := HW3.out.2.1.size; omega)).mono ?_
        rintro e w5 ⟨rfl, _, hb5, _⟩
        have hB5 : Below w.heap.size w w5 := hB4.trans (hb5.mono hs1)
        go_wp2_with fail
        go_ret2
        exact ⟨by rw [HE.out]; rfl, hB5⟩
end

section
open Go.RowKit
set_option maxRecDepth 100000
/-- The reader lies in block r. -/
def RD (r : Nat) (s : ByteArray) (a z : Nat) (w : World) : Prop := w.heap[r]? = some (.cells #[.string s, .int .i64 a, .int .i64 z] 78 (0, 0))
theorem RD.cells {r : Nat} {s : ByteArray} {a z : Nat} {w : World} (h : RD r s a z w) : w.cell? ⟨r, 0, none⟩ = some (.string s) ∧ w.cell? ⟨r, 1, none⟩ = some (.int .i64 a) ∧ w.cell? ⟨r, 2, none⟩ = some (.int .i64 z) ∧
    w.frozen? ⟨r, 1, none⟩ = false ∧ w.frozen? ⟨r, 2, none⟩ = false := by
  refine ⟨?_, ?_, ?_, Lib.frozen_of_heap h 1, Lib.frozen_of_heap h 2⟩ <;> rw [Lib.cell_of_heap h] <;> rfl
theorem RD.lt {r : Nat} {s : ByteArray} {a z : Nat} {w : World} (h : RD r s a z w) : r < w.heap.size := (Array.getElem?_eq_some_iff.1 h).1
theorem RD.to1 {r : Nat} {s : ByteArray} {a z : Nat} {w : World} (h : RD r s a z w) (a' : Nat) : RD r s a' z (w.setCell ⟨r, 1, none⟩ (.int .i64 a')) := by
  have hlt := h.lt
  unfold RD at *
  simp only [World.setCell, Array.getElem?_modify, h]
  simp
theorem RD.to2 {r : Nat} {s : ByteArray} {a z : Nat} {w : World} (h : RD r s a z w) (z' : Nat) : RD r s a z' (w.setCell ⟨r, 2, none⟩ (.int .i64 z')) := by
  have hlt := h.lt
  unfold RD at *
  simp only [World.setCell, Array.getElem?_modify, h]
  simp
theorem RD.drewN {r : Nat} {s : ByteArray} {a z : Nat} {w : World} (h : RD r s a z w) (n : Nat) : RD r s a z (w.drewN n) := h
/-- But for the reader's block all stands. -/
def KB (r : Nat) (w w' : World) : Prop := w.grownBy w' (some r)
theorem KB.refl (r : Nat) (w : World) : KB r w w := ⟨rfl, rfl, rfl, Nat.le_refl _, fun _ _ _ => rfl⟩
theorem KB.trans {r : Nat} {a b c : World} (h : KB r a b) (k : KB r b c) : KB r a c :=
  ⟨k.os.trans h.os, k.tape.trans h.tape, k.output.trans h.output, Nat.le_trans h.size k.size, fun i hi hr => (k.block i (Nat.lt_of_lt_of_le hi h.size) hr).trans (h.block i hi hr)⟩
theorem KB.set {r : Nat} {w : World} (j : Nat) (v : Value) : KB r w (w.setCell ⟨r, j, none⟩ v) :=
  ⟨rfl, rfl, rfl, by simp [World.setCell], fun k _ hk => Below.heap_setCell _ _ _ _ (fun e => hk (by simp [e]))⟩
theorem KB.drewN {r : Nat} {w : World} (n : Nat) : KB r w (w.drewN n) := ⟨rfl, rfl, rfl, Nat.le_refl _, fun _ _ _ => rfl⟩
theorem KB.of_below {r : Nat} {w w' : World} (h : Below w.heap.size w w') : KB r w w' := ⟨h.os, h.tape, h.output, h.size, fun k hk _ => h.block k hk⟩
theorem KB.below {r B : Nat} {w w' : World} (h : KB r w w') (hr : B ≤ r) (hB : B ≤ w.heap.size) : Below B w w' := ⟨h.os, h.tape, h.output, h.size, fun k hk => h.block k (by omega) (by simp; omega)⟩
/-- The first fault. -/
def faultV (a : Nat) (c : Int) : Value := .iface 74 (.agg #[.int .i64 a, .int .i64 c])
def Wrong (a : Nat) (c : Int) (e : Ending) : Prop := e = .panicked [{ v := faultV a c, recovered := false }]
set_option maxHeartbeats 1000000 in
theorem wrong_any (r a : Nat) (c : Int) (w : World) : Calls Tryd.prog 36 #[.pointer (some ⟨r, 0, none⟩), .int .i64 a, .int .i64 c] w fun e w' => Wrong a c e ∧ w = w' := by
  go_enter Tryd.func36, Tryd.ntmps36
  go_wp2_with fail
  exact ⟨rfl, rfl, rfl⟩
set_option maxHeartbeats 1000000 in
theorem next_end (r : Nat) (s : ByteArray) (z : Nat) (w : World) (h : RD r s s.size z w) (_hs : s.size ≤ 1048576) : Calls Tryd.prog 48 #[.pointer (some ⟨r, 0, none⟩)] w fun e w' => e = .returned (.tuple #[.int .u8 0, .bool false]) ∧ ∃ n, w' = w.drewN n := by
  obtain ⟨c0, c1, c2, f1, f2⟩ := h.cells
  clear h
  go_enter Tryd.func48, Tryd.ntmps48
  go_wp2_with fail
  go_quiet (fail)
  go_wp2_with fail
  go_ret2
  exact ⟨rfl, nq, rfl⟩
set_option maxHeartbeats 1000000 in
theorem next_byte (r : Nat) (s : ByteArray) (a z : Nat) (w : World) (h : RD r s a z w) (_hs : s.size ≤ 1048576) (ha : a < s.size) : Calls Tryd.prog 48 #[.pointer (some ⟨r, 0, none⟩)] w fun e w' => e = .returned (.tuple #[.int .u8 s[a].toNat, .bool true]) ∧ ∃ n, w' = w.drewN n := by
  obtain ⟨c0, c1, c2, f1, f2⟩ := h.cells
  clear h
  have hne : ((a : Int) == (s.size : Int)) = false := by
    simp only [beq_eq_false_iff_ne, ne_eq]; omega
  go_enter Tryd.func48, Tryd.ntmps48
  go_wp2_with fail
  go_quiet (fail)
  go_wp2_with fail
  go_quiet (fail)
  go_wp2_with fail
  go_ret2
  exact ⟨rfl, _, World.drewN_drewN w _ _⟩
end

section
open Go.RowKit
set_option maxRecDepth 100000
def wordR (s : List UInt8) : List UInt8 → Nat → Except Nat Nat
  | [], a => .ok a
  | b :: r, a => if s[a]? = some b then wordR s r (a + 1) else .error a
def WordP (r : Nat) (s : ByteArray) (z : Nat) (w : World) : Except Nat Nat → Ending → World → Prop
  | .ok a', e, w' => e = .returned (.tuple #[]) ∧ RD r s a' z w' ∧ KB r w w'
  | .error p, e, w' => Wrong p 5 e ∧ KB r w w'
def WordQ (r : Nat) (s : ByteArray) (z : Nat) (w : World) (x : Except Nat Nat) (e : Ending) (w' : World) : Prop := WordP r s z w x e w'
theorem u8_ne {a b : UInt8} (h : a ≠ b) : ((a.toNat : Int) == (b.toNat : Int)) = false := by
  simp only [beq_eq_false_iff_ne, ne_eq]
  intro e
  exact h (UInt8.toNat_inj.1 (by omega))
theorem u8_ne' {a b : UInt8} (h : a ≠ b) : ((a.toNat : Int) != (b.toNat : Int)) = true := by
  rw [bne, u8_ne h]; rfl
set_option maxHeartbeats 2000000 in
theorem word_any (r : Nat) (s : ByteArray) (a z : Nat) (wt : ByteArray) (w : World) (h : RD r s a z w) (ha : a ≤ s.size) (hs : s.size ≤ 1048576) (hw : wt.size ≤ 1048576) :
    Calls Tryd.prog 49 #[.pointer (some ⟨r, 0, none⟩), .string wt] w (WordQ r s z w (wordR s.data.toList wt.data.toList a)) := by
  have H := Lib.hid h
  clear h
  go_enter Tryd.func49, Tryd.ntmps49
  go_wp2_with fail
  go_loopw [9] (fun iv wr => ∃ (i : Nat), i ≤ wt.size ∧ a + i ≤ s.size ∧ iv = .int .i64 i ∧ Hid (RD r s (a + i) z wr) ∧ Hid (KB r w wr) ∧ Hid (wordR s.data.toList (wt.data.toList.drop i) (a + i) = wordR s.data.toList wt.data.toList a))
    (fun i _ => wt.size - (intOf i).toNat)
  case atStart => exact ⟨0, by omega, by omega, rfl, H, Lib.hid (KB.refl _ _), Lib.hid (by simp)⟩
  case round =>
    obtain ⟨i, hi, hai, rfl, hrd, hkb, heq⟩ := hrel
    by_cases hlt : i < wt.size
    · have hstep : wordR s.data.toList (wt.data.toList.drop i) (a + i) = if s.data.toList[a + i]? = some wt[i] then wordR s.data.toList (wt.data.toList.drop (i + 1)) (a + i + 1) else .error (a + i) := by
        rw [List.drop_eq_getElem_cons (by simpa using hlt), wordR]; rfl
      rw [show wordR s.data.toList (wt.data.toList.drop i) (a + i) = _ from hstep] at heq
      clear hstep
      by_cases hend : a + i = s.size
      · have hnone : s.data.toList[a + i]? = none := List.getElem?_eq_none (by simp; omega)
        rw [hnone, if_neg (by simp)] at heq
        have hrd' : Hid (RD r s s.size z wr) := by rw [← hend]; exact hrd
        clear hnone
        have HE := Lib.hid hend
        clear hend
        go_wp2_with fail
        refine (next_end r s z wr hrd'.out hs).mono ?_
        rintro e w1 ⟨rfl, m, rfl⟩
        obtain ⟨c0, c1, c2, f1, f2⟩ := (hrd.out.drewN m).cells
        go_wp2_with fail
        refine (wrong_any r _ _ _).mono ?_
        rintro e w1 ⟨he, rfl⟩
        cases he
        go_wp2_with fail
        refine ⟨rfl, ?_⟩
        show WordP _ _ _ _ _ _ _
        rw [← heq.out]
        exact ⟨rfl, hkb.out.trans (KB.drewN m)⟩
      · have hlt2 : a + i < s.size := by omega
        have hsome : s.data.toList[a + i]? = some s[a + i] := by rw [List.getElem?_eq_getElem (by simpa using hlt2)]; rfl
        rw [hsome] at heq
        clear hsome
        go_wp2_with fail
        refine (next_byte r s (a + i) z wr hrd.out hs hlt2).mono ?_
        rintro e w1 ⟨rfl, m, rfl⟩
        obtain ⟨c0, c1, c2, f1, f2⟩ := (hrd.out.drewN m).cells
        by_cases hb : s[a + i] = wt[i]
        · rw [if_pos (by rw [hb])] at heq
          have hbb : ((s[a + i].toNat : Int) != (wt[i].toNat : Int)) = false := by rw [hb]; simp
          have HB := Lib.hid hb
          clear hb
          go_wp2_with fail
          go_roundw
          case rel => exact ⟨i + 1, by omega, by omega, by go_num, Lib.hid ((hrd.out.drewN m).to1 (a + i + 1)), Lib.hid ((hkb.out.trans (KB.drewN m)).trans (KB.set 1 _)), heq⟩
          case measure => simp [intOf]; omega
        · rw [if_neg (by simpa using hb)] at heq
          have hbb := u8_ne' hb
          have HB := Lib.hid hb
          clear hb
          go_wp2_with fail
          refine (wrong_any r _ _ _).mono ?_
          rintro e w1 ⟨he, rfl⟩
          cases he
          go_wp2_with fail
          refine ⟨rfl, ?_⟩
          show WordP _ _ _ _ _ _ _
          rw [← heq.out]
          exact ⟨rfl, hkb.out.trans (KB.drewN m)⟩
    · obtain rfl : i = wt.size := by omega
      have hd : wt.data.toList.drop wt.size = [] := List.drop_eq_nil_iff.2 (by simp)
      rw [hd, wordR] at heq
      clear hd
      go_wp2_with fail
      go_end0
      show WordP _ _ _ _ _ _ _
      rw [← heq.out]
      exact ⟨rfl, hrd.out, hkb.out⟩
end

section
open Go.RowKit
set_option maxRecDepth 100000
def hexI (c : UInt8) : Int := Lib.indexByte hexL c
def escT (s : List UInt8) : Nat → Int → Nat → Except Nat (UInt8 × Nat)
  | 0, n, a => .ok (UInt8.ofNat n.toNat, a)
  | k + 1, n, a =>
    match s[a + 1]? with
    | none => .error (a + 1)
    | some c =>
      if hexI c < 0 ∨ (k = 1 ∧ 2 ≤ hexI c ∧ hexI c ≤ 6) then .error (a + 1)
      else if k = 0 ∧ 32 ≤ n * 16 + hexI c ∧ n * 16 + hexI c ≤ 126 then .error (a + 1)
      else escT s k (n * 16 + hexI c) (a + 1)
theorem escT_none {s : List UInt8} {k a : Nat} {n : Int} (h : s[a + 1]? = none) : escT s (k + 1) n a = .error (a + 1) := by rw [escT, h]
theorem escT_some {s : List UInt8} {k a : Nat} {n : Int} {c : UInt8} (h : s[a + 1]? = some c) : escT s (k + 1) n a =
      if hexI c < 0 ∨ (k = 1 ∧ 2 ≤ hexI c ∧ hexI c ≤ 6) then .error (a + 1)
      else if k = 0 ∧ 32 ≤ n * 16 + hexI c ∧ n * 16 + hexI c ≤ 126 then .error (a + 1)
      else escT s k (n * 16 + hexI c) (a + 1) := by rw [escT, h]
def escR (s : List UInt8) (a : Nat) : Except Nat (UInt8 × Nat) :=
  match s[a]? with
  | none => .error a
  | some c => if c.toNat = 34 ∨ c.toNat = 92 then .ok (c, a) else if c.toNat ≠ 120 then .error a else escT s 2 0 a
theorem or_zero : ∀ k : Fin 16, bits BinOp.or IntKind.i64 0 (k.val : Int) = (k.val : Int) := by decide
theorem or_hex : ∀ n k : Fin 16, bits BinOp.or IntKind.i64 ((n.val : Int) * 16) (k.val : Int) = (n.val : Int) * 16 + (k.val : Int) := by decide
theorem or0 {k : Int} (h0 : 0 ≤ k) (h1 : k ≤ 15) : bits BinOp.or IntKind.i64 0 k = k := by
  have := or_zero ⟨k.toNat, by omega⟩
  simpa [Int.toNat_of_nonneg h0] using this
theorem orH {n k : Int} (a0 : 0 ≤ n) (a1 : n ≤ 15) (h0 : 0 ≤ k) (h1 : k ≤ 15) : bits BinOp.or IntKind.i64 (n * 16) k = n * 16 + k := by
  have := or_hex ⟨n.toNat, by omega⟩ ⟨k.toNat, by omega⟩
  simpa [Int.toNat_of_nonneg h0, Int.toNat_of_nonneg a0] using this
def EscP (r : Nat) (s : ByteArray) (z : Nat) (w : World) : Except Nat (UInt8 × Nat) → Ending → World → Prop
  | .ok (c, a'), e, w' => e = .returned (.int .u8 c.toNat) ∧ RD r s a' z w' ∧ KB r w w'
  | .error p, e, w' => Wrong p 5 e ∧ KB r w w'
def EscQ (r : Nat) (s : ByteArray) (z : Nat) (w : World) (x : Except Nat (UInt8 × Nat)) (e : Ending) (w' : World) : Prop := EscP r s z w x e w'
theorem idx_bd : ∀ (l : List UInt8) (c : UInt8), -1 ≤ Lib.indexByte l c ∧ Lib.indexByte l c < l.length
  | [], c => by simp [Lib.indexByte]
  | b :: l, c => by
    have := idx_bd l c
    simp only [Lib.indexByte, List.length_cons]
    split
    · omega
    · split <;> omega
theorem hexI_bd (c : UInt8) : -1 ≤ hexI c ∧ hexI c ≤ 15 := by
  have := idx_bd hexL c
  have e : hexL.length = 16 := rfl
  unfold hexI; omega
theorem hexI_any (c : UInt8) (w : World) : Calls Tryd.prog 67 #[.string ⟨#[48, 49, 50, 51, 52, 53, 54, 55, 56, 57, 97, 98, 99, 100, 101, 102]⟩, .int .u8 (c.toNat : Int)] w fun e w' => e = .returned (.int .i64 (hexI c)) ∧ w = w' := by
  refine (Tryd.strings_IndexByte _ _ w).mono ?_
  rintro e w' ⟨rfl, rfl⟩
  refine ⟨?_, rfl⟩
  have e1 : (c.toNat : Int).toNat.toUInt8 = c := by simp
  rw [e1]
  rfl
theorem hexI_zero (w : World) : Calls Tryd.prog 67 #[.string ⟨#[48, 49, 50, 51, 52, 53, 54, 55, 56, 57, 97, 98, 99, 100, 101, 102]⟩, .int .u8 0] w fun e w' => e = .returned (.int .i64 (-1)) ∧ w = w' := by
  refine (Tryd.strings_IndexByte _ _ w).mono ?_
  rintro e w' ⟨rfl, rfl⟩
  exact ⟨rfl, rfl⟩
set_option maxHeartbeats 2000000 in
theorem esc_any (r : Nat) (s : ByteArray) (a z : Nat) (w : World) (h : RD r s a z w) (ha : a ≤ s.size) (hs : s.size ≤ 1048576) :
    Calls Tryd.prog 60 #[.pointer (some ⟨r, 0, none⟩)] w (EscQ r s z w (escR s.data.toList a)) := by
  have H := Lib.hid h
  clear h
  by_cases hend : a = s.size
  · have hnone : s.data.toList[a]? = none := List.getElem?_eq_none (by simp; omega)
    have he : escR s.data.toList a = .error a := by unfold escR; rw [hnone]
    have HE := Lib.hid he
    have H' : Hid (RD r s s.size z w) := by rw [← hend]; exact H
    clear he hnone
    have HEN := Lib.hid hend
    clear hend
    obtain ⟨c0, c1, c2, f1, f2⟩ := H.out.cells
    go_enter Tryd.func60, Tryd.ntmps60
    go_wp2_with fail
    refine (next_end r s z _ H'.out hs).mono ?_
    rintro e w1 ⟨rfl, m, rfl⟩
    go_wp2_with fail
    refine (wrong_any r _ _ _).mono ?_
    rintro e w1 ⟨he, rfl⟩
    cases he
    go_wp2_with fail
    refine ⟨rfl, ?_⟩
    show EscP _ _ _ _ _ _ _
    rw [HE.out]
    exact ⟨rfl, KB.drewN m⟩
  · have hlt : a < s.size := by omega
    have hsome : s.data.toList[a]? = some s[a] := by rw [List.getElem?_eq_getElem (by simpa using hlt)]; rfl
    by_cases h34 : s[a].toNat = 34
    · have b1 : ((s[a].toNat : Int) == 34) = true := by rw [h34]; rfl
      have he : escR s.data.toList a = .ok (s[a], a) := by
        unfold escR
        rw [hsome]
        simp only
        rw [if_pos (.inl h34)]
      have HE := Lib.hid he
      have H34 := Lib.hid h34
      clear he h34 hsome
      go_enter Tryd.func60, Tryd.ntmps60
      go_wp2_with fail
      refine (next_byte r s a z _ H.out hs hlt).mono ?_
      rintro e w1 ⟨rfl, m, rfl⟩
      go_wp2_with fail
      go_ret
      show EscP _ _ _ _ _ _ _
      rw [HE.out]
      exact ⟨by first | rfl | exact ret_int (by rw [H34.out]; rfl), H.out.drewN m, KB.drewN m⟩
    · by_cases h92 : s[a].toNat = 92
      · have b1 : ((s[a].toNat : Int) == 34) = false := by rw [h92]; rfl
        have b2 : ((s[a].toNat : Int) == 92) = true := by rw [h92]; rfl
        have he : escR s.data.toList a = .ok (s[a], a) := by
          unfold escR
          rw [hsome]
          simp only
          rw [if_pos (.inr h92)]
        have HE := Lib.hid he
        have H34 := Lib.hid h92
        clear he h34 h92 hsome
        go_enter Tryd.func60, Tryd.ntmps60
        go_wp2_with fail
        refine (next_byte r s a z _ H.out hs hlt).mono ?_
        rintro e w1 ⟨rfl, m, rfl⟩
        go_wp2_with fail
        go_ret
        show EscP _ _ _ _ _ _ _
        rw [HE.out]
        exact ⟨by first | rfl | exact ret_int (by rw [H34.out]; rfl), H.out.drewN m, KB.drewN m⟩
      · by_cases hx : s[a].toNat = 120
        · have b1 : ((s[a].toNat : Int) == 34) = false := by rw [hx]; rfl
          have b2 : ((s[a].toNat : Int) == 92) = false := by rw [hx]; rfl
          have b3 : ((s[a].toNat : Int) != 120) = false := by rw [hx]; rfl
          go_enter Tryd.func60, Tryd.ntmps60
          go_wp2_with fail
          refine (next_byte r s a z _ H.out hs hlt).mono ?_
          rintro e w1 ⟨rfl, m, rfl⟩
          go_wp2_with fail
          have he : escR s.data.toList a = escT s.data.toList 2 0 a := by
            unfold escR
            rw [hsome]
            simp only
            rw [if_neg (by omega), if_neg (by omega)]
          have HE := Lib.hid he
          clear he hsome h34 h92 hx
          go_loopw [5, 34] (fun nv iv wr => ∃ (i : Nat) (n : Int), i ≤ 2 ∧ iv = .int .i64 i ∧ nv = .int .i64 n ∧ 0 ≤ n ∧ n ≤ 255 ∧ (i = 0 → n = 0) ∧ (i = 1 → n ≤ 15) ∧ a + i < s.size ∧ Hid (RD r s (a + i) z wr) ∧ Hid (KB r w wr) ∧ Hid (escT s.data.toList (2 - i) n (a + i) = escR s.data.toList a))
            (fun _ i _ => 2 - (intOf i).toNat)
          case atStart => exact ⟨0, 0, by omega, rfl, rfl, by omega, by omega, fun _ => rfl, fun _ => by omega, by omega, Lib.hid (H.out.drewN m), Lib.hid (KB.drewN m), Lib.hid HE.out.symm⟩
          case round =>
            obtain ⟨i, n, hi, rfl, rfl, hn0, hn1, hi0, hi1, hai, hrd, hkb, heq⟩ := hrel
            obtain ⟨c0, c1, c2, f1, f2⟩ := hrd.out.cells
            have hi' : i = 0 ∨ i = 1 ∨ i = 2 := by omega
            rcases hi' with rfl | rfl | rfl
            · obtain rfl := hi0 rfl
              clear hi0 hi1
              have HRD1 := Lib.hid (hrd.out.to1 (a + 0 + 1))
              have HKB1 := Lib.hid (hkb.out.trans (KB.set 1 (.int .i64 (a + 0 + 1 : Nat))))
              by_cases hend1 : a + 0 + 1 = s.size
              · have hs1 : s.data.toList[a + 0 + 1]? = none := List.getElem?_eq_none (by simp; omega)
                have hq : escT s.data.toList (2 - 0) 0 (a + 0) = .error (a + 0 + 1) := by
                  exact escT_none (k := 1) hs1
                have HQ := Lib.hid hq
                have HE1 : Hid (RD r s s.size z (wr.setCell ⟨r, 1, none⟩ (.int .i64 (a + 0 + 1 : Nat)))) := by rw [← hend1]; exact HRD1
                clear hq hs1
                have HEN := Lib.hid hend1
                clear hend1
                go_wp2_with fail
                refine (next_end r s z _ HE1.out hs).mono ?_
                rintro e w1 ⟨rfl, m1, rfl⟩
                have HRD2 := Lib.hid (HRD1.out.drewN m1)
                have HKB2 := Lib.hid (HKB1.out.trans (KB.drewN m1))
                obtain ⟨d0, d1, d2, g1, g2⟩ := HRD2.out.cells
                go_wp2_with fail
                refine (hexI_zero _).mono ?_
                rintro e w1 ⟨rfl, rfl⟩
                go_wp2_with fail
                refine (wrong_any r _ _ _).mono ?_
                rintro e w1 ⟨he, rfl⟩
                cases he
                go_wp2_with fail
                refine ⟨rfl, ?_⟩
                show EscP _ _ _ _ _ _ _
                rw [← heq.out, HQ.out]
                exact ⟨rfl, HKB2.out⟩
              · have hlt1 : a + 0 + 1 < s.size := by omega
                have hs1 : s.data.toList[a + 0 + 1]? = some s[a + 0 + 1] := by rw [List.getElem?_eq_getElem (by simpa using hlt1)]; rfl
                have hq : escT s.data.toList (2 - 0) 0 (a + 0) = if hexI s[a + 0 + 1] < 0 ∨ (2 ≤ hexI s[a + 0 + 1] ∧ hexI s[a + 0 + 1] ≤ 6) then .error (a + 0 + 1) else escT s.data.toList 1 (hexI s[a + 0 + 1]) (a + 0 + 1) := by
                  rw [show escT s.data.toList (2 - 0) 0 (a + 0) = _ from escT_some (k := 1) hs1]
                  simp
                have hbd := hexI_bd s[a + 0 + 1]
                have HQ := Lib.hid hq
                clear hq hs1
                go_wp2_with fail
                refine (next_byte r s (a + 0 + 1) z _ HRD1.out hs hlt1).mono ?_
                rintro e w1 ⟨rfl, m1, rfl⟩
                have HRD2 := Lib.hid (HRD1.out.drewN m1)
                have HKB2 := Lib.hid (HKB1.out.trans (KB.drewN m1))
                obtain ⟨d0, d1, d2, g1, g2⟩ := HRD2.out.cells
                go_wp2_with fail
                refine (hexI_any _ _).mono ?_
                rintro e w1 ⟨rfl, rfl⟩
                generalize hexI s[a + 0 + 1] = k at hbd HQ ⊢
                obtain ⟨k0, k15⟩ := hbd
                by_cases hk : k < 0
                · go_wp2_with fail
                  refine (wrong_any r _ _ _).mono ?_
                  rintro e w1 ⟨he, rfl⟩
                  cases he
                  go_wp2_with fail
                  refine ⟨rfl, ?_⟩
                  show EscP _ _ _ _ _ _ _
                  rw [← heq.out, HQ.out, if_pos (.inl hk)]
                  exact ⟨rfl, HKB2.out⟩
                · by_cases hk2 : 2 ≤ k ∧ k ≤ 6
                  · have hk3 := Lib.hid hk2
                    obtain ⟨ka, kb⟩ := hk2
                    go_wp2_with fail
                    refine (wrong_any r _ _ _).mono ?_
                    rintro e w1 ⟨he, rfl⟩
                    cases he
                    go_wp2_with fail
                    refine ⟨rfl, ?_⟩
                    show EscP _ _ _ _ _ _ _
                    rw [← heq.out, HQ.out, if_pos (.inr hk3.out)]
                    exact ⟨rfl, HKB2.out⟩
                  · have hk3 : k < 2 ∨ 6 < k := by omega
                    have HQ' : Hid (escT s.data.toList 1 k (a + 0 + 1) = escR s.data.toList a) := by
                      show _ = _
                      rw [← heq.out, HQ.out, if_neg (by omega)]
                    have hor : bits BinOp.or IntKind.i64 0 k = k := or0 (by omega) k15
                    clear hk2
                    rcases hk3 with hk3 | hk3
                    · go_wp2_with fail
                      go_roundw
                      case rel => exact ⟨1, k, by omega, rfl, by go_num, by omega, by omega, by omega, by omega, by omega, HRD2, HKB2, HQ'⟩
                      case measure => simp [intOf]
                    · go_wp2_with fail
                      go_roundw
                      case rel => exact ⟨1, k, by omega, rfl, by go_num, by omega, by omega, by omega, by omega, by omega, HRD2, HKB2, HQ'⟩
                      case measure => simp [intOf]
            · have hn15 := hi1 rfl
              clear hi0 hi1
              have HRD1 := Lib.hid (hrd.out.to1 (a + 1 + 1))
              have HKB1 := Lib.hid (hkb.out.trans (KB.set 1 (.int .i64 (a + 1 + 1 : Nat))))
              by_cases hend1 : a + 1 + 1 = s.size
              · have hs1 : s.data.toList[a + 1 + 1]? = none := List.getElem?_eq_none (by simp; omega)
                have hq : escT s.data.toList (2 - 1) n (a + 1) = .error (a + 1 + 1) := by
                  exact escT_none (k := 0) hs1
                have HQ := Lib.hid hq
                have HE1 : Hid (RD r s s.size z (wr.setCell ⟨r, 1, none⟩ (.int .i64 (a + 1 + 1 : Nat)))) := by rw [← hend1]; exact HRD1
                clear hq hs1
                have HEN := Lib.hid hend1
                clear hend1
                go_wp2_with fail
                refine (next_end r s z _ HE1.out hs).mono ?_
                rintro e w1 ⟨rfl, m1, rfl⟩
                have HRD2 := Lib.hid (HRD1.out.drewN m1)
                have HKB2 := Lib.hid (HKB1.out.trans (KB.drewN m1))
                obtain ⟨d0, d1, d2, g1, g2⟩ := HRD2.out.cells
                go_wp2_with fail
                refine (hexI_zero _).mono ?_
                rintro e w1 ⟨rfl, rfl⟩
                go_wp2_with fail
                refine (wrong_any r _ _ _).mono ?_
                rintro e w1 ⟨he, rfl⟩
                cases he
                go_wp2_with fail
                refine ⟨rfl, ?_⟩
                show EscP _ _ _ _ _ _ _
                rw [← heq.out, HQ.out]
                exact ⟨rfl, HKB2.out⟩
              · have hlt1 : a + 1 + 1 < s.size := by omega
                have hs1 : s.data.toList[a + 1 + 1]? = some s[a + 1 + 1] := by rw [List.getElem?_eq_getElem (by simpa using hlt1)]; rfl
                have hq : escT s.data.toList (2 - 1) n (a + 1) = if hexI s[a + 1 + 1] < 0 then .error (a + 1 + 1) else if 32 ≤ n * 16 + hexI s[a + 1 + 1] ∧ n * 16 + hexI s[a + 1 + 1] ≤ 126 then .error (a + 1 + 1) else escT s.data.toList 0 (n * 16 + hexI s[a + 1 + 1]) (a + 1 + 1) := by
                  rw [show escT s.data.toList (2 - 1) n (a + 1) = _ from escT_some (k := 0) hs1]
                  simp
                have hbd := hexI_bd s[a + 1 + 1]
                have HQ := Lib.hid hq
                clear hq hs1
                go_wp2_with fail
                refine (next_byte r s (a + 1 + 1) z _ HRD1.out hs hlt1).mono ?_
                rintro e w1 ⟨rfl, m1, rfl⟩
                have HRD2 := Lib.hid (HRD1.out.drewN m1)
                have HKB2 := Lib.hid (HKB1.out.trans (KB.drewN m1))
                obtain ⟨d0, d1, d2, g1, g2⟩ := HRD2.out.cells
                go_wp2_with fail
                refine (hexI_any _ _).mono ?_
                rintro e w1 ⟨rfl, rfl⟩
                generalize hexI s[a + 1 + 1] = k at hbd HQ ⊢
                obtain ⟨k0, k15⟩ := hbd
                by_cases hk : k < 0
                · go_wp2_with fail
                  refine (wrong_any r _ _ _).mono ?_
                  rintro e w1 ⟨he, rfl⟩
                  cases he
                  go_wp2_with fail
                  refine ⟨rfl, ?_⟩
                  show EscP _ _ _ _ _ _ _
                  rw [← heq.out, HQ.out, if_pos hk]
                  exact ⟨rfl, HKB2.out⟩
                · have hor : bits BinOp.or IntKind.i64 (n * 16) k = n * 16 + k := orH hn0 hn15 (by omega) k15
                  by_cases hk2 : 32 ≤ n * 16 + k ∧ n * 16 + k ≤ 126
                  · have hk3 := Lib.hid hk2
                    have hkn := Lib.hid hk
                    obtain ⟨ka, kb⟩ := hk2
                    go_wp2_with fail
                    refine (wrong_any r _ _ _).mono ?_
                    rintro e w1 ⟨he, rfl⟩
                    cases he
                    go_wp2_with fail
                    refine ⟨rfl, ?_⟩
                    show EscP _ _ _ _ _ _ _
                    rw [← heq.out, HQ.out, if_neg (Int.not_lt.2 hkn.out), if_pos hk3.out]
                    exact ⟨rfl, HKB2.out⟩
                  · have hkn := Lib.hid hk
                    have hk2n := Lib.hid hk2
                    have hk3 : n * 16 + k < 32 ∨ 126 < n * 16 + k := by omega
                    have HQ' : Hid (escT s.data.toList 0 (n * 16 + k) (a + 1 + 1) = escR s.data.toList a) := by
                      show _ = _
                      rw [← heq.out, HQ.out, if_neg hk, if_neg hk2]
                    clear hk2
                    rcases hk3 with hk3 | hk3
                    · go_wp2_with fail
                      go_roundw
                      case rel => exact ⟨2, n * 16 + k, by omega, rfl, by go_num, by omega, by omega, by omega, by omega, by omega, HRD2, HKB2, HQ'⟩
                      case measure => simp [intOf]
                    · go_wp2_with fail
                      go_roundw
                      case rel => exact ⟨2, n * 16 + k, by omega, rfl, by go_num, by omega, by omega, by omega, by omega, by omega, HRD2, HKB2, HQ'⟩
                      case measure => simp [intOf]
            · clear hi0 hi1
              have hlast : escT s.data.toList (2 - 2) n (a + 2) = .ok (UInt8.ofNat n.toNat, a + 2) := rfl
              have HQ := Lib.hid hlast
              clear hlast
              go_wp2_with fail
              go_ret
              show EscP _ _ _ _ _ _ _
              rw [← heq.out, HQ.out]
              refine ⟨ret_int ?_, hrd.out, hkb.out⟩
              have : n.toNat < 256 := by omega
              simp only [UInt8.toNat_ofNat']
              omega
        · have b1 : ((s[a].toNat : Int) == 34) = false := by simp only [beq_eq_false_iff_ne, ne_eq]; omega
          have b2 : ((s[a].toNat : Int) == 92) = false := by simp only [beq_eq_false_iff_ne, ne_eq]; omega
          have b3 : ((s[a].toNat : Int) != 120) = true := by simp only [bne_iff_ne, ne_eq]; omega
          have he : escR s.data.toList a = .error a := by
            unfold escR
            rw [hsome]
            simp only
            rw [if_neg (by omega), if_pos hx]
          have HE := Lib.hid he
          clear he h34 h92 hx hsome
          go_enter Tryd.func60, Tryd.ntmps60
          go_wp2_with fail
          refine (next_byte r s a z _ H.out hs hlt).mono ?_
          rintro e w1 ⟨rfl, m, rfl⟩
          obtain ⟨c0, c1, c2, f1, f2⟩ := (H.out.drewN m).cells
          go_wp2_with fail
          refine (wrong_any r _ _ _).mono ?_
          rintro e w1 ⟨he, rfl⟩
          cases he
          go_wp2_with fail
          refine ⟨rfl, ?_⟩
          show EscP _ _ _ _ _ _ _
          rw [HE.out]
          exact ⟨rfl, KB.drewN m⟩
end

section
open Go.RowKit
set_option maxRecDepth 100000
def textF (s : List UInt8) : Nat → Nat → List UInt8 → Except Nat (List UInt8 × Nat)
  | 0, a, _ => .error a
  | k + 1, a, acc =>
    match s[a]? with
    | none => .error a
    | some c =>
      if c.toNat < 32 ∨ 126 < c.toNat then .error a
      else if c.toNat = 34 then .ok (acc, a + 1)
      else if c.toNat = 92 then
        match escR s (a + 1) with
        | .error p => .error p
        | .ok (x, a') => textF s k (a' + 1) (acc ++ [x])
      else textF s k (a + 1) (acc ++ [c])
/-- What reading a value comes to: the value, how far, how great; or where it went wrong, and how. -/
abbrev RR := Except (Nat × Int) (VT × Nat × Nat)
def ValP (r : Nat) (s : ByteArray) (w : World) : RR → Ending → World → Prop
  | .ok (t, a', z'), e, w' => ∃ v bs, e = .returned v ∧ RepV w' t v bs ∧ bs.Nodup ∧ (∀ g ∈ bs, w.heap.size ≤ g) ∧ RD r s a' z' w' ∧ KB r w w'
  | .error (p, c), e, w' => Wrong p c e ∧ KB r w w'
def ValQ (r : Nat) (s : ByteArray) (w : World) (x : RR) (e : Ending) (w' : World) : Prop := ValP r s w x e w'
def textV (z : Nat) : Except Nat (List UInt8 × Nat) → RR
  | .error p => .error (p, 5)
  | .ok (acc, a') => .ok (.text ⟨acc.toArray⟩, a', z + acc.length)
def rdAt (r : Nat) (w : World) : Nat := match w.cell? ⟨r, 1, none⟩ with
  | some (.int _ q) => q.toNat
  | _ => 0
theorem rdAt_of {r : Nat} {s : ByteArray} {a z : Nat} {w : World} (h : RD r s a z w) : rdAt r w = a := by unfold rdAt; rw [h.cells.2.1]; rfl
theorem lt_measure {r : Nat} {s : ByteArray} {a z a' z' : Nat} {w w' : World} (h : RD r s a z w) (h' : RD r s a' z' w') (hl : a < a') (hs : a' ≤ s.size) : s.size + 1 - rdAt r w' < s.size + 1 - rdAt r w := by
  rw [rdAt_of h, rdAt_of h']; omega
theorem escT_bd {s : List UInt8} : ∀ (k : Nat) (n : Int) (a : Nat) (x : UInt8) (a' : Nat), a < s.length → escT s k n a = .ok (x, a') → a ≤ a' ∧ a' < s.length
  | 0, n, a, x, a', ha, h => by simp only [escT, Except.ok.injEq, Prod.mk.injEq] at h; omega
  | k + 1, n, a, x, a', ha, h => by
    cases hc : s[a + 1]? with
    | none => rw [escT_none hc] at h; cases h
    | some c =>
      have hlt : a + 1 < s.length := (List.getElem?_eq_some_iff.1 hc).1
      rw [escT_some hc] at h
      split at h
      · cases h
      · split at h
        · cases h
        · have := escT_bd k _ (a + 1) x a' hlt h
          omega
theorem escR_bd {s : List UInt8} {a : Nat} {x : UInt8} {a' : Nat} (h : escR s a = .ok (x, a')) : a ≤ a' ∧ a' < s.length := by
  unfold escR at h
  cases hc : s[a]? with
  | none => rw [hc] at h; cases h
  | some c =>
    have hlt : a < s.length := (List.getElem?_eq_some_iff.1 hc).1
    rw [hc] at h
    simp only at h
    split at h
    · simp only [Except.ok.injEq, Prod.mk.injEq] at h; omega
    · split at h
      · cases h
      · exact escT_bd 2 0 a x a' hlt h
theorem conv_own {w : World} {B : Nat} {v : Value} {acc : List UInt8} (h : w.ownsRow B 5 1 v acc.length (Lib.byteCells acc)) : ∃ la lc, v = .slice la acc.length lc ∧ acc.length ≤ 9223372036854775807 ∧
    ∀ w' : World, (∀ g, la = some ⟨g, 0, none⟩ → w'.heap[g]? = w.heap[g]?) → (convert 65 88 (.slice la acc.length lc)).run Tryd.prog w' = .ok (.string ⟨acc.toArray⟩) w' := by
  have hc := fun (g : Nat) (e : v.ownBlock = some g) => h.cells e
  rcases h.2 with ⟨rfl, h0⟩ | ⟨g, cap, cur, rfl, _, hg, hn, hm, _⟩
  · have : acc = [] := List.eq_nil_of_length_eq_zero h0
    subst this
    exact ⟨none, 0, rfl, by simp, fun w' _ => Lib.run_convert_nil_bytes w' 65 88 5 0 Tryd.underlying65 Tryd.underlying5 Tryd.underlying88⟩
  · refine ⟨_, cap, rfl, by unfold maxLen at hm; omega, fun w' hk => ?_⟩
    refine run_convert_bytes_back w' 65 88 5 ⟨g, 0, none⟩ cap acc Tryd.underlying65 Tryd.underlying5 Tryd.underlying88 fun j hj => ?_
    have h1 := hc g rfl j (.int .u8 (acc[j].toNat : Int)) (by simp [Lib.byteCells, List.getElem?_eq_getElem hj])
    have e1 : (⟨g, 0, none⟩ : Addr).add j = ⟨g, j, none⟩ := by unfold Addr.add; split <;> simp_all
    rw [e1] at h1 ⊢
    rw [← h1]
    exact World.cell?_of_block (w := w) (w' := w') (a := ⟨g, j, none⟩) (hk g rfl)
theorem alloc_below' (w : World) (o : Obj) : Below w.heap.size w (w.alloc o) := (Below.refl _ _).alloc (Nat.le_refl _) _
set_option maxHeartbeats 4000000 in
theorem rtext_any (r : Nat) (s : ByteArray) (a z : Nat) (w : World) (h : RD r s a z w) (ha : a < s.size) (hs : s.size ≤ 1048576) (hz : z ≤ 1048577) :
    Calls Tryd.prog 50 #[.pointer (some ⟨r, 0, none⟩)] w (ValQ r s w (textV z (textF s.data.toList (s.size + 1) (a + 1) []))) := by
  have H := Lib.hid h
  obtain ⟨c0, c1, c2, f1, f2⟩ := h.cells
  clear h
  obtain ⟨i0, hi, hz0, hz1, hz2⟩ := info_parts infoB
  have HI0 := Lib.hid hi
  have HZ0 := Lib.hid hz0
  have HZ1 := Lib.hid hz1
  have HZ2 := Lib.hid hz2
  clear hi hz0 hz1 hz2
  obtain ⟨N, hN⟩ : ∃ N, N = w.heap.size := ⟨_, rfl⟩
  have HN := Lib.hid hN
  clear hN
  go_enter Tryd.func50, Tryd.ntmps50
  go_wp2_with fail
  go_loopw [3] (fun u wr => ∃ (k p : Nat) (acc : List UInt8) (bv : Value), bv = u ∧ p ≤ s.size ∧ acc.length ≤ p ∧ s.size < p + k ∧ Hid (wr.ownsRow N 5 1 bv acc.length (Lib.byteCells acc)) ∧ Hid (RD r s p z wr) ∧ Hid (KB r w wr) ∧ Hid (textF s.data.toList k p acc = textF s.data.toList (s.size + 1) (a + 1) []))
    (fun _ wr => s.size + 1 - rdAt r wr)
  case atStart => exact ⟨s.size + 1, a + 1, [], _, rfl, by omega, by simp, by omega, Lib.hid (World.ownsRow_nil _ _ _ _), Lib.hid (H.out.to1 (a + 1)), Lib.hid (KB.set 1 _), Lib.hid rfl⟩
  case round =>
    obtain ⟨k, p, acc, bv, rfl, hp, hacc, hk, hown, hrd, hkb, heq⟩ := hrel
    obtain ⟨k, rfl⟩ : ∃ j, k = j + 1 := ⟨k - 1, by omega⟩
    obtain ⟨c0, c1, c2, f1, f2⟩ := hrd.out.cells
    by_cases hend : p = s.size
    · have hnone : s.data.toList[p]? = none := List.getElem?_eq_none (by simp; omega)
      have hstep : textF s.data.toList (k + 1) p acc = .error p := by rw [textF, hnone]
      rw [show textF s.data.toList (k + 1) p acc = _ from hstep] at heq
      have HE1 : Hid (RD r s s.size z wr) := by rw [← hend]; exact hrd
      have HEN := Lib.hid hend
      clear hnone hstep hend
      go_wp2_with fail
      refine (next_end r s z _ HE1.out hs).mono ?_
      rintro e w1 ⟨rfl, m, rfl⟩
      go_wp2_with fail
      refine (wrong_any r _ _ _).mono ?_
      rintro e w1 ⟨he, rfl⟩
      cases he
      go_wp2_with fail
      refine ⟨rfl, ?_⟩
      show ValP _ _ _ _ _ _
      rw [← heq.out]
      exact ⟨rfl, hkb.out.trans (KB.drewN m)⟩
    · have hlt : p < s.size := by omega
      have hsome : s.data.toList[p]? = some s[p] := by rw [List.getElem?_eq_getElem (by simpa using hlt)]; rfl
      by_cases hbad : s[p].toNat < 32
      · have hstep : textF s.data.toList (k + 1) p acc = .error p := by
          rw [textF, hsome]; simp only; rw [if_pos (.inl hbad)]
        rw [show textF s.data.toList (k + 1) p acc = _ from hstep] at heq
        clear hsome hstep
        have n32 : (s[p].toNat : Int) < 32 := by omega
        go_wp2_with fail
        refine (next_byte r s p z _ hrd.out hs hlt).mono ?_
        rintro e w1 ⟨rfl, m, rfl⟩
        go_wp2_with fail
        refine (wrong_any r _ _ _).mono ?_
        rintro e w1 ⟨he, rfl⟩
        cases he
        go_wp2_with fail
        refine ⟨rfl, ?_⟩
        show ValP _ _ _ _ _ _
        rw [← heq.out]
        exact ⟨rfl, hkb.out.trans (KB.drewN m)⟩
      · by_cases hbad2 : 126 < s[p].toNat
        · have hstep : textF s.data.toList (k + 1) p acc = .error p := by
            rw [textF, hsome]; simp only; rw [if_pos (.inr hbad2)]
          rw [show textF s.data.toList (k + 1) p acc = _ from hstep] at heq
          clear hsome hstep
          have n32 : ¬ ((s[p].toNat : Int) < 32) := by omega
          have n126 : 126 < (s[p].toNat : Int) := by omega
          go_wp2_with fail
          refine (next_byte r s p z _ hrd.out hs hlt).mono ?_
          rintro e w1 ⟨rfl, m, rfl⟩
          go_wp2_with fail
          refine (wrong_any r _ _ _).mono ?_
          rintro e w1 ⟨he, rfl⟩
          cases he
          go_wp2_with fail
          refine ⟨rfl, ?_⟩
          show ValP _ _ _ _ _ _
          rw [← heq.out]
          exact ⟨rfl, hkb.out.trans (KB.drewN m)⟩
        · have n32 : ¬ ((s[p].toNat : Int) < 32) := by omega
          have n126 : ¬ (126 < (s[p].toNat : Int)) := by omega
          by_cases h34 : s[p].toNat = 34
          · have b34 : ((s[p].toNat : Int) == 34) = true := by rw [h34]; rfl
            have hstep : textF s.data.toList (k + 1) p acc = .ok (acc, p + 1) := by
              rw [textF, hsome]; simp only; rw [if_neg (by omega), if_pos h34]
            rw [show textF s.data.toList (k + 1) p acc = _ from hstep] at heq
            have hbase : ∀ g, bv.ownBlock = some g → N ≤ g := fun g hg => (hown.out.lt g hg).1
            obtain ⟨la, lc, rfl, hmx, hconv⟩ := conv_own hown.out
            have HC := Lib.hid hconv
            have HBA := Lib.hid hbase
            have H34 := Lib.hid h34
            clear hsome hstep h34 hconv hbase
            go_wp2_with fail
            refine (next_byte r s p z _ hrd.out hs hlt).mono ?_
            rintro e w1 ⟨rfl, m, rfl⟩
            go_wp2_with fail
            rw [HC.out _ (fun g e => ?_)]
            · simp only [Result.andThen]
              rw [Oper.upon_value]
              go_wp2_with fail
              go_ret
              show ValP _ _ _ _ _ _
              rw [← heq.out]
              exact ⟨_, [], rfl, ⟨rfl, rfl⟩, by simp, by simp, ((hrd.out.drewN m).to1 (p + 1)).to2 (z + acc.length), ((hkb.out.trans (KB.drewN m)).trans (KB.set 1 _)).trans (KB.set 2 _)⟩
            · have h1 := HBA.out g (by rw [e]; rfl)
              have h2 := H.out.lt
              have h3 := HN.out
              exact (Below.heap_setCell _ _ _ _ (by simp; omega)).trans (Below.heap_setCell _ _ _ _ (by simp; omega))
          · have b34 : ((s[p].toNat : Int) == 34) = false := by simp only [beq_eq_false_iff_ne, ne_eq]; omega
            by_cases h92 : s[p].toNat = 92
            · have b92 : ((s[p].toNat : Int) == 92) = true := by rw [h92]; rfl
              have hstep : textF s.data.toList (k + 1) p acc = match escR s.data.toList (p + 1) with
                  | .error q => .error q
                  | .ok (x, a') => textF s.data.toList k (a' + 1) (acc ++ [x]) := by
                rw [textF, hsome]; simp only; rw [if_neg (by omega), if_neg h34, if_pos h92]
              rw [show textF s.data.toList (k + 1) p acc = _ from hstep] at heq
              have hesc : ∀ x a', escR s.data.toList (p + 1) = .ok (x, a') → p + 1 ≤ a' ∧ a' < s.data.toList.length := fun x a' h => escR_bd h
              have HB := Lib.hid hesc
              have H92 := Lib.hid h92
              clear hsome hstep h34 h92 hesc
              go_wp2_with fail
              refine (next_byte r s p z _ hrd.out hs hlt).mono ?_
              rintro e w1 ⟨rfl, m, rfl⟩
              have HR1 := Lib.hid ((hrd.out.drewN m).to1 (p + 1))
              have HK1 := Lib.hid ((hkb.out.trans (KB.drewN m)).trans (KB.set 1 (.int .i64 (p + 1 : Nat))))
              have HO1 : Hid (((wr.drewN m).setCell ⟨r, 1, none⟩ (.int .i64 (p + 1 : Nat))).ownsRow N 5 1 bv acc.length (Lib.byteCells acc)) := ownsRow_keep hown.out (fun g hg => Below.heap_setCell _ _ _ _ (by have h1 := (hown.out.lt g hg).1; have h2 := H.out.lt; have h3 := HN.out; simp; omega))
              go_wp2_with fail
              refine (esc_any r s (p + 1) z _ HR1.out (by omega) hs).mono ?_
              cases hx : escR s.data.toList (p + 1) with
              | error q =>
                rw [hx] at heq
                have HX := Lib.hid hx
                clear hx
                intro e w2 hq
                obtain ⟨he, hk2⟩ : EscP r s z _ (.error q) e w2 := hq
                cases he
                go_wp2_with fail
                refine ⟨rfl, ?_⟩
                show ValP _ _ _ _ _ _
                rw [← heq.out]
                exact ⟨rfl, HK1.out.trans hk2⟩
              | ok xa =>
                obtain ⟨x, a'⟩ := xa
                have hbd := HB.out x a' hx
                have hsz : s.data.toList.length = s.size := by simp
                rw [hx] at heq
                have HX := Lib.hid hx
                clear hx
                intro e w2 hq
                obtain ⟨rfl, hr2, hk2⟩ : EscP r s z _ (.ok (x, a')) e w2 := hq
                have HR2 := Lib.hid hr2
                have HK2 := Lib.hid (HK1.out.trans hk2)
                have HO2 : Hid (w2.ownsRow N 5 1 bv acc.length (Lib.byteCells acc)) := ownsRow_keep HO1.out (fun g hg => hk2.block g (HO1.out.lt g hg).2 (by have h1 := (HO1.out.lt g hg).1; have h2 := H.out.lt; have h3 := HN.out; simp; omega))
                clear hr2 hk2
                go_wp2_with (at_builtin; refine wpList_append_own _ rfl _ _ 65 rfl N 5 i0 (.int .u8 0) 1 1 Tryd.underlying65 HI0.out HZ0.out HZ1.out HZ2.out rfl (by decide) _ _ _ rfl (HO2.out.alloc _) ⟨w2.heap.size, 0, none⟩ 1 1 [.int .u8 x.toNat] rfl rfl ?c1 ?c2 ?c3 ?c4 ?c5 ?_)
                case c1 => exact one_new _ _ _
                case c2 => intro u hu; simp at hu; subst hu; rfl
                case c3 => unfold maxLen; omega
                case c4 => omega
                case c5 => have h1 := HN.out; have h2 := HK2.out.size; simp at h2 ⊢; omega
                intro bv' w3 hown' hgrow _
                have hne : bv.ownBlock ≠ some r := fun e => by have h1 := (HO2.out.lt r e).1; have h2 := H.out.lt; have h3 := HN.out; omega
                have HR3 : Hid (RD r s a' z w3) := by
                  have h1 := HR2.out
                  have h2 := h1.lt
                  show w3.heap[r]? = _
                  rw [hgrow.block r (by simp; omega) (fun e => hne e.symm), Below.heap_alloc _ _ _ h2]
                  exact h1
                have HK3 : Hid (KB r w w3) := by
                  have h1 := HK2.out
                  have h2 := HN.out
                  have h4 := h1.size
                  refine ⟨hgrow.os.trans h1.os, hgrow.tape.trans h1.tape, hgrow.output.trans h1.output, by have := hgrow.size; simp at this; omega, fun g hg hgr => ?_⟩
                  rw [hgrow.block g (by simp; omega) (fun e => by have h3 := (HO2.out.lt g e.symm).1; omega), Below.heap_alloc _ _ _ (by omega)]
                  exact h1.block g hg hgr
                have HO3 : Hid ((w3.setCell ⟨r, 1, none⟩ (.int .i64 (a' + 1 : Nat))).ownsRow N 5 1 bv' (acc ++ [x]).length (Lib.byteCells (acc ++ [x]))) := by
                  have h1 : w3.ownsRow N 5 1 bv' (acc ++ [x]).length (Lib.byteCells (acc ++ [x])) := by simpa [Lib.byteCells] using hown'
                  exact ownsRow_keep h1 (fun g hg => Below.heap_setCell _ _ _ _ (by have h1 := (hown'.lt g hg).1; have h2 := H.out.lt; have h3 := HN.out; simp; omega))
                obtain ⟨d0, d1, d2, g1, g2⟩ := HR3.out.cells
                clear hown' hgrow hne
                go_wp2_with fail
                go_roundw
                case rel => exact ⟨k, a' + 1, acc ++ [x], bv', rfl, by omega, by simp; omega, by omega, HO3, Lib.hid (HR3.out.to1 (a' + 1)), Lib.hid (HK3.out.trans (KB.set 1 _)), heq⟩
                case measure => exact lt_measure hrd.out (HR3.out.to1 (a' + 1)) (by omega) (by omega)
            · have b92 : ((s[p].toNat : Int) == 92) = false := by simp only [beq_eq_false_iff_ne, ne_eq]; omega
              have hstep : textF s.data.toList (k + 1) p acc = textF s.data.toList k (p + 1) (acc ++ [s[p]]) := by
                rw [textF, hsome]; simp only; rw [if_neg (by omega), if_neg h34, if_neg h92]
              rw [show textF s.data.toList (k + 1) p acc = _ from hstep] at heq
              clear hsome hstep h34 h92
              go_wp2_with fail
              refine (next_byte r s p z _ hrd.out hs hlt).mono ?_
              rintro e w1 ⟨rfl, m, rfl⟩
              have HR2 := Lib.hid (hrd.out.drewN m)
              have HK2 := Lib.hid (hkb.out.trans (KB.drewN m))
              have HO2 : Hid ((wr.drewN m).ownsRow N 5 1 bv acc.length (Lib.byteCells acc)) := hown
              go_wp2_with (at_builtin; refine wpList_append_own _ rfl _ _ 65 rfl N 5 i0 (.int .u8 0) 1 1 Tryd.underlying65 HI0.out HZ0.out HZ1.out HZ2.out rfl (by decide) _ _ _ rfl (HO2.out.alloc _) ⟨(wr.drewN m).heap.size, 0, none⟩ 1 1 [.int .u8 s[p].toNat] rfl rfl ?c1 ?c2 ?c3 ?c4 ?c5 ?_)
              case c1 => exact one_new _ _ _
              case c2 => intro u hu; simp at hu; subst hu; rfl
              case c3 => unfold maxLen; (have hds : (wr.drewN m).heap.size = wr.heap.size := rfl; omega)
              case c4 => (have hds : (wr.drewN m).heap.size = wr.heap.size := rfl; omega)
              case c5 => have h1 := HN.out; have h2 := HK2.out.size; simp at h2 ⊢; (have hds : (wr.drewN m).heap.size = wr.heap.size := rfl; omega)
              intro bv' w3 hown' hgrow _
              have hne : bv.ownBlock ≠ some r := fun e => by have h1 := (HO2.out.lt r e).1; have h2 := H.out.lt; have h3 := HN.out; (have hds : (wr.drewN m).heap.size = wr.heap.size := rfl; omega)
              have HR3 : Hid (RD r s p z w3) := by
                have h1 := HR2.out
                have h2 := h1.lt
                show w3.heap[r]? = _
                rw [hgrow.block r (by simp; (have hds : (wr.drewN m).heap.size = wr.heap.size := rfl; omega)) (fun e => hne e.symm), Below.heap_alloc _ _ _ h2]
                exact h1
              have HK3 : Hid (KB r w w3) := by
                have h1 := HK2.out
                have h2 := HN.out
                have h4 := h1.size
                refine ⟨hgrow.os.trans h1.os, hgrow.tape.trans h1.tape, hgrow.output.trans h1.output, by have := hgrow.size; simp at this; (have hds : (wr.drewN m).heap.size = wr.heap.size := rfl; omega), fun g hg hgr => ?_⟩
                rw [hgrow.block g (by simp; (have hds : (wr.drewN m).heap.size = wr.heap.size := rfl; omega)) (fun e => by have h3 := (HO2.out.lt g e.symm).1; (have hds : (wr.drewN m).heap.size = wr.heap.size := rfl; omega)), Below.heap_alloc _ _ _ (by (have hds : (wr.drewN m).heap.size = wr.heap.size := rfl; omega))]
                exact h1.block g hg hgr
              have HO3 : Hid ((w3.setCell ⟨r, 1, none⟩ (.int .i64 (p + 1 : Nat))).ownsRow N 5 1 bv' (acc ++ [s[p]]).length (Lib.byteCells (acc ++ [s[p]]))) := by
                have h1 : w3.ownsRow N 5 1 bv' (acc ++ [s[p]]).length (Lib.byteCells (acc ++ [s[p]])) := by simpa [Lib.byteCells] using hown'
                exact ownsRow_keep h1 (fun g hg => Below.heap_setCell _ _ _ _ (by have h1 := (hown'.lt g hg).1; have h2 := H.out.lt; have h3 := HN.out; simp; (have hds : (wr.drewN m).heap.size = wr.heap.size := rfl; omega)))
              obtain ⟨d0, d1, d2, g1, g2⟩ := HR3.out.cells
              clear hown' hgrow hne
              go_wp2_with fail
              go_roundw
              case rel => exact ⟨k, p + 1, acc ++ [s[p]], bv', rfl, by omega, by simp; omega, by omega, HO3, Lib.hid (HR3.out.to1 (p + 1)), Lib.hid (HK3.out.trans (KB.set 1 _)), heq⟩
              case measure => exact lt_measure hrd.out (HR3.out.to1 (p + 1)) (by (have hds : (wr.drewN m).heap.size = wr.heap.size := rfl; omega)) (by (have hds : (wr.drewN m).heap.size = wr.heap.size := rfl; omega))
end

section
open Go.RowKit
set_option maxRecDepth 100000
def scanD (s : List UInt8) : Nat → Nat → Nat
  | 0, p => p
  | k + 1, p =>
    match s[p]? with
    | none => p
    | some d => if 48 ≤ d.toNat ∧ d.toNat ≤ 57 then scanD s k (p + 1) else p
/-- The digits from b on, the first one known. -/
def numEnd (s : List UInt8) (b : Nat) (c : UInt8) : Nat := if c.toNat = 48 then b + 1 else scanD s (s.length + 1) (b + 1)
def numV (s : ByteArray) (a e : Nat) (z : Nat) : RR :=
  match Lib.parseIntB 64 (s.extract a e).data.toList with
  | .ok v => .ok (.int v, e, z)
  | _ => .error (a, 21)
theorem scanD_bd {s : List UInt8} : ∀ (k p : Nat), p ≤ s.length → p ≤ scanD s k p ∧ scanD s k p ≤ s.length
  | 0, p, h => by simp [scanD]; exact h
  | k + 1, p, h => by
    unfold scanD
    cases hc : s[p]? with
    | none => simp; exact h
    | some d =>
      have hlt : p < s.length := (List.getElem?_eq_some_iff.1 hc).1
      simp only
      split
      · have := scanD_bd (s := s) k (p + 1) (by omega); omega
      · omega
def ParseP (t : ByteArray) (w : World) (e : Ending) (w' : World) : Prop :=
  (match Lib.parseIntB 64 t.data.toList with
   | .ok v => e = .returned (.tuple #[.int .i64 v, .nilIface])
   | _ => ∃ v p, e = .returned (.tuple #[.int .i64 v, .iface 133 p])) ∧ Below w.heap.size w w'
theorem parse_any (t : ByteArray) (ht : t.size ≤ 1048576) (w : World) (hT : Tabs w) : Calls Tryd.prog 61 #[.string t, .int .i64 10, .int .i64 64] w (ParseP t w) := by
  obtain ⟨_, ⟨tp, p, h1⟩, tq, q, h2⟩ := hT
  rcases hp : Lib.parseIntB 64 t.data.toList with v | _ | _
  · refine (Tryd.strconv_ParseInt_10_at64_ok t (by omega) v hp w).mono ?_
    rintro e w' ⟨rfl, hw⟩
    refine ⟨by rw [hp], ?_⟩
    rcases hw with rfl | ⟨u, rfl⟩
    · exact Below.refl _ _
    · exact Lib.bytesWorld_below w 5 u
  · refine (Tryd.strconv_ParseInt_10_at64_syntax_var t (by omega) hp tp p w h1).mono ?_
    rintro e w' ⟨N, rfl, _, _, hb⟩
    exact ⟨by rw [hp]; exact ⟨_, _, rfl⟩, hb⟩
  · refine (Tryd.strconv_ParseInt_10_at64_range_var t (by omega) hp tq q w h2).mono ?_
    rintro e w' ⟨N, rfl, _, _, hb⟩
    exact ⟨by rw [hp]; exact ⟨_, _, rfl⟩, hb⟩
theorem parse_ok (t : ByteArray) (ht : t.size ≤ 1048576) (w : World) (hT : Tabs w) (v : Int) (hv : Lib.parseIntB 64 t.data.toList = .ok v) : Calls Tryd.prog 61 #[.string t, .int .i64 10, .int .i64 64] w fun e w' => e = .returned (.tuple #[.int .i64 v, .nilIface]) ∧ Below w.heap.size w w' := by
  refine (parse_any t ht w hT).mono fun e w' h => ?_
  unfold ParseP at h
  rw [hv] at h
  exact h
theorem parse_no (t : ByteArray) (ht : t.size ≤ 1048576) (w : World) (hT : Tabs w) (hv : ∀ v, Lib.parseIntB 64 t.data.toList ≠ .ok v) : Calls Tryd.prog 61 #[.string t, .int .i64 10, .int .i64 64] w fun e w' => (∃ v p, e = .returned (.tuple #[.int .i64 v, .iface 133 p])) ∧ Below w.heap.size w w' := by
  refine (parse_any t ht w hT).mono fun e w' h => ?_
  unfold ParseP at h
  rcases hp : Lib.parseIntB 64 t.data.toList with v | _ | _
  · exact absurd hp (hv v)
  · rw [hp] at h; exact h
  · rw [hp] at h; exact h
theorem numV_ok {s : ByteArray} {a e z : Nat} {v : Int} (h : Lib.parseIntB 64 (s.extract a e).data.toList = .ok v) : numV s a e z = .ok (.int v, e, z) := by unfold numV; rw [h]
theorem numV_no {s : ByteArray} {a e z : Nat} (h : ∀ v, Lib.parseIntB 64 (s.extract a e).data.toList ≠ .ok v) : numV s a e z = .error (a, 21) := by
  unfold numV
  split
  · rename_i v hv; exact absurd hv (h v)
  · rfl
theorem extract_size (s : ByteArray) (a e : Nat) (h : s.size ≤ 1048576) : (s.extract a e).size ≤ 1048576 := by simp; omega
theorem cell_step' {w w' : World} {b o : Nat} {v : Value} (h : w.cell? ⟨b, o, none⟩ = some v) (hb : Below w.heap.size w w') : w'.cell? ⟨b, o, none⟩ = some v := by
  rw [hb.cell (p := ⟨b, o, none⟩) (cell_lt h)]; exact h
theorem step3 {W w w' : World} {b j0 j1 : Nat} {v0 v1 : Value} (h : w.cell? ⟨b, j0, none⟩ = some v0 ∧ w.cell? ⟨b, j1, none⟩ = some v1 ∧ Below W.heap.size W w) (hb : Below w.heap.size w w') :
    w'.cell? ⟨b, j0, none⟩ = some v0 ∧ w'.cell? ⟨b, j1, none⟩ = some v1 ∧ Below W.heap.size W w' :=
  ⟨cell_step' h.1 hb, cell_step' h.2.1 hb, h.2.2.trans (hb.mono h.2.2.size)⟩
theorem and3 {a1 a2 b : Prop} (h : a1 ∧ a2 ∧ b) : b := h.2.2
theorem RD.below {r : Nat} {s : ByteArray} {a z : Nat} {w w' : World} (h : RD r s a z w) (hb : Below w.heap.size w w') : RD r s a z w' := by unfold RD at *; rw [hb.block r (Array.getElem?_eq_some_iff.1 h).1]; exact h
set_option maxHeartbeats 4000000 in
theorem num_pos48 (r : Nat) (s : ByteArray) (a z : Nat) (w : World) (h : RD r s a z w) (ha : a < s.size) (hs : s.size ≤ 1048576) (ht : Tabs w) (h5 : 5 ≤ w.heap.size) (hr : 5 ≤ r) (h48 : s[a].toNat = 48) :
    Calls Tryd.prog 52 #[.pointer (some ⟨r, 0, none⟩)] w (ValQ r s w (numV s a (numEnd s.data.toList a s[a]) z)) := by
  have H := Lib.hid h
  have HT := Lib.hid ht
  obtain ⟨c0, c1, c2, f1, f2⟩ := h.cells
  clear h ht
  have b45 : ((s[a].toNat : Int) == 45) = false := by rw [h48]; rfl
  have b48 : ((s[a].toNat : Int) != 48) = false := by rw [h48]; rfl
  have HEQ : Hid (numV s a (numEnd s.data.toList a s[a]) z = numV s a (a + 1) z) := by show _ = _; rw [show numEnd s.data.toList a s[a] = a + 1 from if_pos h48]
  have hlo : ¬ ((s[a].toNat : Int) < 48) := by omega
  have hhi : ¬ (57 < (s[a].toNat : Int)) := by omega
  clear h48
  go_enter Tryd.func52, Tryd.ntmps52
  go_wp2_with fail
  refine (next_byte r s a z _ H.out hs ha).mono ?_
  rintro e w1 ⟨rfl, m, rfl⟩
  go_wp2_with fail
  have HR1 := Lib.hid ((H.out.drewN m).to1 (a + 1))
  have HK1 := Lib.hid ((KB.drewN (r := r) (w := w) m).trans (KB.set 1 (.int .i64 (a + 1 : Nat))))
  go_loopw [7] (fun _ wr => Hid (RD r s (a + 1) z wr) ∧ Hid (KB r w wr)) (fun _ wr => 0)
  case atStart => exact ⟨HR1, HK1⟩
  case round =>
    obtain ⟨hrd, hkb⟩ := hrel
    obtain ⟨c0, c1, c2, f1, f2⟩ := hrd.out.cells
    have HTW := Lib.hid (HT.out.below (hkb.out.below hr h5) (Nat.le_refl 5))
    have h5 : 5 ≤ wr.heap.size := Nat.le_trans h5 hkb.out.size
    have hsub : (a : Int) + 1 - (a : Int) = 1 := by omega
    have q1 : (a : Int) ≤ (a : Int) + 1 := by omega
    have q2 : (a : Int) + 1 ≤ (s.size : Int) := by omega
    have q3 : (0 : Int) ≤ (a : Int) := by omega
    have q4 : (0 : Int) ≤ (a : Int) + 1 := by omega
    go_wp2_with fail
    have hBd : Below wr.heap.size wr wr.drew := (Below.refl _ _).drew
    have HX := Lib.hid (extract_size s a (a + 1) hs)
    cases hpar : Lib.parseIntB 64 (s.extract a (a + 1)).data.toList with
    | ok v =>
      have HP := Lib.hid hpar
      have HV := Lib.hid (numV_ok (z := z) hpar)
      clear hpar
      go_region_held3 (fun w' => w'.cell? ⟨r, 0, none⟩ = some (.string s) ∧ w'.cell? ⟨r, 1, none⟩ = some (.int .i64 (a + 1 : Nat)) ∧ Below wr.heap.size wr w')
        (first | exact ⟨c0, c1, hBd⟩ | exact step3 (w := wr.drew) ⟨c0, c1, hBd⟩ hb | (refine step3 ?_ hb; assumption) | assumption)
        (first | (go_at_call 61; ((with_reducible refine (parse_ok _ HX.out _ (HTW.out.below ?_ h5) _ HP.out).mono ?_); (first | assumption | (apply and3; assumption)); rintro e w1 ⟨rfl, hb⟩)))
      all_goals
        rename_i hS
        have hBW := hS.2.2
        clear hS
        go_wp2_with fail
        go_ret
        show ValP _ _ _ _ _ _
        rw [HEQ.out, HV.out]
        exact ⟨_, [], rfl, ⟨rfl, rfl⟩, by simp, by simp, hrd.out.below hBW, hkb.out.trans (KB.of_below hBW)⟩
    | _ =>
      have hno : ∀ v, Lib.parseIntB 64 (s.extract a (a + 1)).data.toList ≠ .ok v := fun v h => by rw [hpar] at h; cases h
      have HP := Lib.hid hno
      have HV := Lib.hid (numV_no (z := z) hno)
      clear hpar hno
      go_region_held3 (fun w' => w'.cell? ⟨r, 0, none⟩ = some (.string s) ∧ w'.cell? ⟨r, 1, none⟩ = some (.int .i64 (a + 1 : Nat)) ∧ Below wr.heap.size wr w')
        (first | exact ⟨c0, c1, hBd⟩ | exact step3 (w := wr.drew) ⟨c0, c1, hBd⟩ hb | (refine step3 ?_ hb; assumption) | assumption)
        (first | (go_at_call 61; ((with_reducible refine (parse_no _ HX.out _ (HTW.out.below ?_ h5) HP.out).mono ?_); (first | assumption | (apply and3; assumption)); rintro e w1 ⟨⟨vv, pp, rfl⟩, hb⟩)))
      all_goals
        rename_i hS
        have hBW := hS.2.2
        clear hS
        go_wp2_with fail
        refine (wrong_any r _ _ _).mono ?_
        rintro e w2 ⟨he, rfl⟩
        cases he
        go_wp2_with fail
        refine ⟨rfl, ?_⟩
        show ValP _ _ _ _ _ _
        rw [HEQ.out, HV.out]
        exact ⟨rfl, hkb.out.trans (KB.of_below hBW)⟩
end
end Go.Proofs.YtkpnnhebfaggeaaDoor
