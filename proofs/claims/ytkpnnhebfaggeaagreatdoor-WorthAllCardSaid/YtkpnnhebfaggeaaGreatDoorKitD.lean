/-
  Twin, copies, the document's texts and values: walks by the kit.
  Conditions: none.
-/
import Derived.Test.YtkpnnhebfaggeaaGreatDoorKitC
namespace Go.Proofs.YtkpnnhebfaggeaaGreatDoor
set_option linter.unusedVariables false
set_option linter.unusedSimpArgs false
section
open Go.RowKit
set_option maxRecDepth 100000
theorem hasP_of {w : World} {base : Nat} {k n : Int} {s : ByteArray} {l : List PT} {lv : Value} {xs : List Value} {bs : List Nat} (hs : s.size ≤ 140737488355328) (hl : l.length ≤ 4398046511104)
    (how : w.ownsRow base 27 4 lv l.length xs) (hh : HasPs w l xs bs) : ∃ bs', HasP w (.mk k n s l) [.int .i64 k, .int .i64 n, .string s, lv] bs' ∧ ∀ g ∈ bs', g ∈ bs ∨ lv.ownBlock = some g := by
  obtain ⟨la, lc, rfl⟩ := own_slice how
  by_cases hl0 : l = []
  · subst hl0
    obtain ⟨rfl, rfl⟩ := hh
    exact ⟨[], ⟨hs, hl, la, lc, rfl, .inl ⟨rfl, rfl⟩⟩, by simp⟩
  · have hpos : 0 < l.length := List.length_pos_iff.2 hl0
    rcases how.2 with ⟨he, _⟩ | ⟨g, cap, cur, he, hbase, _⟩
    · simp only [Value.slice.injEq] at he; omega
    · simp only [Value.slice.injEq, true_and] at he
      obtain ⟨rfl, rfl⟩ := he
      have hcell := how.cells (g := g) rfl
      refine ⟨g :: bs, ⟨hs, hl, some ⟨g, 0, none⟩, lc, rfl, .inr ⟨g, xs, bs, hl0, rfl, fun j v hv => ?_, hh, rfl⟩⟩, fun b hb => ?_⟩
      · have := hcell j v hv
        rwa [show (⟨g, 0, none⟩ : Addr).add j = ⟨g, j, none⟩ from by unfold Addr.add; split <;> simp_all] at this
      · rcases List.mem_cons.1 hb with rfl | hb
        · exact .inr rfl
        · exact .inl hb
/-- A plain value made anew, in memory of its own. -/
def NewP (p : PT) (w : World) (e : Ending) (w' : World) : Prop := ∃ cs bs, e = .returned (.agg cs.toArray) ∧ HasP w' p cs bs ∧ (∀ g ∈ bs, w.heap.size ≤ g) ∧ Below w.heap.size w w'
def CopyFor (p : PT) : Prop := ∀ (w : World) (v : Value), ArgP w p v → shortP p → Calls Tryz.prog 44 #[v] w (NewP p w)
set_option maxHeartbeats 4000000 in
theorem copy_step (k n : Int) (s : ByteArray) (l : List PT) (ih : ∀ p ∈ l, CopyFor p) : CopyFor (.mk k n s l) := by
  intro w v hv hsh
  have g := hv
  obtain ⟨hss, hln, la, lc, rfl, hla⟩ := g
  have HI := Lib.hid ih
  have HA := Lib.hid hla
  have HSZ := Lib.hid hss
  have hll : l.length ≤ 4398046511104 := by have := hsh.1; omega
  have HLL := Lib.hid hsh.1
  have HSH := Lib.hid hsh.2
  clear hv ih hla hss hsh hln
  obtain ⟨i0, hi, hz0, hz1, hz2⟩ := info_parts info24
  have HZ1 := Lib.hid hz1; clear hz1
  have HZ2 := Lib.hid hz2; clear hz2
  have HZ0 := Lib.hid hz0; clear hz0
  have HI0 := Lib.hid hi; clear hi
  go_enter Tryz.func44, Tryz.ntmps44
  go_wp2_with fail
  have hz6 : ((w.alloc (.cells #[.int .i64 k, .int .i64 n, .string s, .slice la l.length lc] 27)).alloc (.cells #[.int .i64 0, .int .i64 0, .string ⟨#[]⟩, .slice none 0 0] 27)).heap[w.heap.size]? = some (.cells #[.int .i64 k, .int .i64 n, .string s, .slice la l.length lc] 27 (0, 0)) := by
    rw [Below.heap_alloc _ _ _ (by simp)]
    exact heap_alloc_new w _
  have hz14 : ((w.alloc (.cells #[.int .i64 k, .int .i64 n, .string s, .slice la l.length lc] 27)).alloc (.cells #[.int .i64 0, .int .i64 0, .string ⟨#[]⟩, .slice none 0 0] 27)).heap[w.heap.size + 1]? = some (.cells #[.int .i64 0, .int .i64 0, .string ⟨#[]⟩, .slice none 0 0] 27 (0, 0)) := by
    have := heap_alloc_new (w.alloc (.cells #[.int .i64 k, .int .i64 n, .string s, .slice la l.length lc] 27)) (.cells #[.int .i64 0, .int .i64 0, .string ⟨#[]⟩, .slice none 0 0] 27)
    simpa using this
  have hB0 : Below w.heap.size w ((w.alloc (.cells #[.int .i64 k, .int .i64 n, .string s, .slice la l.length lc] 27)).alloc (.cells #[.int .i64 0, .int .i64 0, .string ⟨#[]⟩, .slice none 0 0] 27)) := (alloc_below w _).alloc (by simp) _
  have hsW : ((w.alloc (.cells #[.int .i64 k, .int .i64 n, .string s, .slice la l.length lc] 27)).alloc (.cells #[.int .i64 0, .int .i64 0, .string ⟨#[]⟩, .slice none 0 0] 27)).heap.size = w.heap.size + 2 := by simp
  generalize ((w.alloc (.cells #[.int .i64 k, .int .i64 n, .string s, .slice la l.length lc] 27)).alloc (.cells #[.int .i64 0, .int .i64 0, .string ⟨#[]⟩, .slice none 0 0] 27)) = W at hB0 hz6 hz14 hsW ⊢
  obtain ⟨R, hR⟩ : ∃ R, R = w.heap.size := ⟨_, rfl⟩
  simp only [← hR] at hz6 hz14 hsW ⊢
  have HRR := Lib.hid hR
  have HSW := Lib.hid hsW
  have HB0 := Lib.hid hB0
  have HZ6 := Lib.hid hz6
  have HZ14 := Lib.hid hz14
  clear hR hsW hB0 hz6 hz14
  go_loopw [3, 4] (fun lv iv wr => ∃ (i : Nat) (xs : List Value) (bs : List Nat), i ≤ l.length ∧ iv = .int .i64 i ∧ Hid (Below w.heap.size w wr) ∧
      Hid (wr.heap[R]? = some (.cells #[.int .i64 k, .int .i64 n, .string s, .slice la l.length lc] 27 (0, 0))) ∧ Hid (wr.heap[R + 1]? = some (.cells #[.int .i64 0, .int .i64 0, .string ⟨#[]⟩, .slice none 0 0] 27 (0, 0))) ∧
      Hid (wr.ownsRow (R + 2) 27 4 lv i xs) ∧ Hid (HasPs wr (l.take i) xs bs) ∧ Hid (∀ g ∈ bs, R + 2 ≤ g ∧ lv.ownBlock ≠ some g) ∧ Hid (R + 2 ≤ wr.heap.size))
    (fun _ iv _ => l.length - (intOf iv).toNat)
  case atStart => exact ⟨0, [], [], by omega, rfl, HB0, HZ6, HZ14, Lib.hid ⟨rfl, .inl ⟨rfl, rfl⟩⟩, Lib.hid ⟨rfl, rfl⟩, Lib.hid (by simp), Lib.hid (by rw [HSW.out]; omega)⟩
  case round =>
    obtain ⟨i, xs, bs, hil, rfl, hkb, h6, h14, how, hhas, hbs, hsz⟩ := hrel
    obtain ⟨lx, cx, rfl⟩ := own_slice how.out
    have c3 : wr.cell? ⟨R, 3, none⟩ = some (.slice la l.length lc) := (heapcell h6.out 3).1
    by_cases hlt : i < l.length
    · obtain ⟨b', o', rfl, hin⟩ := HA.out (by intro h; subst h; simp at hlt)
      have hp := InPs.get l b' o' i hlt (InPs.below hkb.out _ _ _ hin)
      rw [Nat.mul_comm] at hp
      obtain ⟨k1, n1, s1, la1, lc1, l1, e1, ⟨x0, x1, x2, x3⟩, ha1⟩ := arg_of_in hp
      have hcall := HI.out l[i] (List.getElem_mem hlt) wr _ ha1 (shortPs_get l i hlt HSH.out)
      have HCALL := Lib.hid hcall
      clear hcall hp ha1 hin e1
      go_wp2_with fail
      refine HCALL.out.mono ?_
      rintro e w1 ⟨cs, cb, rfl, hh, hge, hkb1⟩
      obtain ⟨k2, n2, s2, la2, ln2, lc2, rfl⟩ := hh.form
      have HH := Lib.hid hh
      have HGE := Lib.hid hge
      have HKB := Lib.hid hkb1
      have hs1 := hsz.out
      have h6' : w1.heap[R]? = some (.cells #[.int .i64 k, .int .i64 n, .string s, .slice (some ⟨b', o', none⟩) l.length lc] 27 (0, 0)) := (hkb1.block R (by omega)).trans h6.out
      have h14' : w1.heap[R + 1]? = some (.cells #[.int .i64 0, .int .i64 0, .string ⟨#[]⟩, .slice none 0 0] 27 (0, 0)) := (hkb1.block (R + 1) (by omega)).trans h14.out
      have H6 := Lib.hid h6'
      have H14 := Lib.hid h14'
      have HOW : Hid (w1.ownsRow (R + 2) 27 4 (Value.slice lx i cx) i xs) := ownsRow_keep how.out (fun g hg => hkb1.block g (how.out.lt g hg).2)
      clear hh hge hkb1 h6' h14' hs1 x0 x1 x2 x3 c3
      go_wp2_with (at_builtin; refine wpList_append_own_at _ rfl _ _ 25 rfl (R + 2) 27 i0 _ 4 56 Tryz.underlying25 HI0.out HZ0.out HZ1.out HZ2.out rfl (by decide) _ _ _ rfl ((HOW.out.alloc _).alloc _) ⟨w1.heap.size + 1, 0, none⟩ 1 1 [.int .i64 k2, .int .i64 n2, .string s2, .slice la2 ln2 lc2] rfl rfl ?c1 ?c2 ?c3 ?c4 ?c5 ?_)
      case c1 =>
        have h1 := four_new (w1.alloc (.cells #[.int .i64 k2, .int .i64 n2, .string s2, .slice la2 ln2 lc2] 27)) (.int .i64 k2) (.int .i64 n2) (.string s2) (.slice la2 ln2 lc2) 27
        rw [show (w1.alloc (.cells #[.int .i64 k2, .int .i64 n2, .string s2, .slice la2 ln2 lc2] 27)).heap.size = w1.heap.size + 1 from by simp] at h1
        exact h1
      case c2 => intro u hu; simp at hu; rcases hu with rfl | rfl | rfl | rfl <;> rfl
      case c3 => have := HLL.out; unfold maxLen; omega
      case c4 => have := HLL.out; omega
      case c5 => have := hsz.out; have := HKB.out.size; simp; omega
      intro lv' w3 hown3 hgrow _ hblk
      have hs3 := hgrow.size
      simp at hs3
      have hlo : ∀ b, (Value.slice lx i cx).ownBlock = some b → R + 2 ≤ b ∧ b < w1.heap.size := fun b hb => HOW.out.lt b hb
      have hold : ∀ b, b < w1.heap.size → (Value.slice lx i cx).ownBlock ≠ some b → w3.heap[b]? = w1.heap[b]? := fun b hb hn =>
        ((hgrow.block b (by simp; omega) (fun e => hn e.symm)).trans (Below.heap_alloc _ _ _ (by simp; omega))).trans (Below.heap_alloc _ _ _ hb)
      have hR1 := hsz.out
      have hR2 := HKB.out.size
      have H14' : Hid (w3.heap[R + 1]? = some (.cells #[.int .i64 0, .int .i64 0, .string ⟨#[]⟩, .slice none 0 0] 27 (0, 0))) := Lib.hid ((hold (R + 1) (by omega) (fun e => by have := (hlo _ e).1; omega)).trans H14.out)
      have H6' : Hid (w3.heap[R]? = some (.cells #[.int .i64 k, .int .i64 n, .string s, .slice (some ⟨b', o', none⟩) l.length lc] 27 (0, 0))) := Lib.hid ((hold R (by omega) (fun e => by have := (hlo _ e).1; omega)).trans H6.out)
      have HOLD := Lib.hid hold
      have HLO := Lib.hid hlo
      have HGR := Lib.hid hgrow
      have HOW3 := Lib.hid hown3
      have HBLK := Lib.hid hblk
      have HS3 := Lib.hid hs3
      clear hold hlo hgrow hown3 hblk hs3 hR1 hR2
      go_wp2_with fail
      go_roundw
      case rel =>
        have hR1 := hsz.out
        have hR2 := HKB.out.size
        have hRw := HRR.out
        have hs3 := HS3.out
        have hlo := HLO.out
        have hlo' : ∀ b, (Value.slice lx i cx).ownBlock = some b → b < wr.heap.size := fun b hb => (how.out.lt b hb).2
        have hold := HOLD.out
        have hgrow := HGR.out
        have hkb1 := hkb.out.trans (HKB.out.mono hkb.out.size)
        have hkb4 : Below w.heap.size w w3 := by
          refine ⟨hgrow.os.trans hkb1.os, hgrow.tape.trans hkb1.tape, hgrow.output.trans hkb1.output, by have := hkb1.size; omega, fun b hb => ?_⟩
          rw [hold b (by have := hkb1.size; omega) (fun e => by have := (hlo _ e).1; omega)]
          exact hkb1.block b hb
        have hh4 : HasPs w3 (l.take (i + 1)) (xs ++ [.int .i64 k2, .int .i64 n2, .string s2, .slice la2 ln2 lc2]) (bs ++ cb) := by
          rw [List.take_succ_eq_append_getElem hlt]
          refine HasPs.snoc _ _ _ _ _ _ (HasPs.keep _ _ _ (fun b hb => ?_) hhas.out) (HasP.keep _ _ _ (fun b hb => ?_) HH.out)
          · have h5 := hbs.out b hb
            have h6 := HasPs.lt _ _ _ hhas.out b hb
            rw [hold b (by omega) h5.2]
            exact HKB.out.block b h6
          · have h5 := HGE.out b hb
            have h6 := HasP.lt _ _ _ HH.out b hb
            exact hold b h6 (fun e => by have := hlo' b e; omega)
        refine ⟨i + 1, xs ++ [.int .i64 k2, .int .i64 n2, .string s2, .slice la2 ln2 lc2], bs ++ cb, by omega, ?_, Lib.hid hkb4, H6', H14', HOW3, Lib.hid hh4, Lib.hid (fun b hb => ?_), Lib.hid (by omega)⟩
        · have := HLL.out
          go_num
        · rcases List.mem_append.1 hb with hb | hb
          · have h5 := hbs.out b hb
            have h6 := HasPs.lt _ _ _ hhas.out b hb
            refine ⟨h5.1, fun e => ?_⟩
            rcases HBLK.out with h7 | h7
            · exact h5.2 (h7.symm.trans e)
            · rw [h7] at e; simp at e; omega
          · have h5 := HGE.out b hb
            have h6 := HasP.lt _ _ _ HH.out b hb
            refine ⟨by omega, fun e => ?_⟩
            rcases HBLK.out with h7 | h7
            · have := hlo' b (h7.symm.trans e); omega
            · rw [h7] at e; simp at e; omega
      case measure =>
        have := HLL.out
        simp [intOf]; omega
    · obtain rfl : i = l.length := by omega
      obtain ⟨p0, f0⟩ := heapcell h6.out 0
      obtain ⟨p1, f1⟩ := heapcell h6.out 1
      obtain ⟨p2, f2⟩ := heapcell h6.out 2
      obtain ⟨p3, f3⟩ := heapcell h6.out 3
      obtain ⟨q0, g0⟩ := heapcell h14.out 0
      obtain ⟨q1, g1⟩ := heapcell h14.out 1
      obtain ⟨q2, g2⟩ := heapcell h14.out 2
      obtain ⟨q3, g3⟩ := heapcell h14.out 3
      go_wp2_with fail
      have hw5 : ∀ b, R + 2 ≤ b ∨ b < R → (((((wr.setCell ⟨R, 3, none⟩ (.slice lx l.length cx)).setCell ⟨R + 1, 0, none⟩ (.int .i64 k)).setCell ⟨R + 1, 1, none⟩ (.int .i64 n)).setCell ⟨R + 1, 2, none⟩ (.string s)).setCell ⟨R + 1, 3, none⟩ (.slice lx l.length cx)).heap[b]? = wr.heap[b]? := fun b hb => by
        rw [heap_set_ne _ (by omega), heap_set_ne _ (by omega), heap_set_ne _ (by omega), heap_set_ne _ (by omega), heap_set_ne _ (by omega)]
      refine bodyPost_ret (v := .agg #[.int .i64 k, .int .i64 n, .string s, .slice lx l.length cx]) (by simp [results, Tryz.results44, go_sem, q0, q1, q2, q3]) rfl ?_
      have hh := hhas.out
      rw [List.take_length] at hh
      obtain ⟨bs', h1, h2⟩ := hasP_of (k := k) (n := n) HSZ.out (by have := HLL.out; omega) (ownsRow_keep how.out (fun b hb => hw5 b (.inl (how.out.lt b hb).1))) (HasPs.keep _ _ _ (fun b hb => hw5 b (.inl (hbs.out b hb).1)) hh)
      have hRw := HRR.out
      refine ⟨_, bs', rfl, h1, fun b hb => ?_, ⟨hkb.out.os, hkb.out.tape, hkb.out.output, by have := hkb.out.size; simpa [World.setCell] using this, fun b hb => (hw5 b (by omega)).trans (hkb.out.block b hb)⟩⟩
      rcases h2 b hb with h3 | h3
      · have := (hbs.out b h3).1; omega
      · have := (how.out.lt b h3).1; omega
mutual
theorem copy_any : ∀ p : PT, CopyFor p
  | .mk k n s l => copy_step k n s l (copy_anys l)
theorem copy_anys : ∀ l : List PT, ∀ p ∈ l, CopyFor p
  | [], p, h => by simp at h
  | q :: r, p, h => by
    rcases List.mem_cons.1 h with h | h
    · rw [h]; exact copy_any q
    · exact copy_anys r p h
end
end

section
open Go.RowKit
set_option maxRecDepth 100000
theorem KB.alloc {r : Nat} {w wr : World} (h : KB r w wr) (o : Obj) : KB r w (wr.alloc o) := h.trans (KB.of_below (alloc_below wr o))
theorem KB.setNew {r b : Nat} {w wr : World} (h : KB r w wr) (hb : w.heap.size ≤ b) (j : Nat) (v : Value) : KB r w (wr.setCell ⟨b, j, none⟩ v) :=
  ⟨h.os, h.tape, h.output, by have := h.size; simpa [World.setCell] using this, fun g hg hr => (Below.heap_setCell _ _ _ _ (by simp; omega)).trans (h.block g hg hr)⟩
theorem KB.set4 {r b : Nat} {w wr : World} (h : KB r w wr) (hb : w.heap.size ≤ b) (x0 x1 x2 x3 : Value) : KB r w ((((wr.setCell ⟨b, 0, none⟩ x0).setCell ⟨b, 1, none⟩ x1).setCell ⟨b, 2, none⟩ x2).setCell ⟨b, 3, none⟩ x3) :=
  (((h.setNew hb 0 x0).setNew hb 1 x1).setNew hb 2 x2).setNew hb 3 x3
theorem RX.set4 {r b : Nat} {s : ByteArray} {a : Nat} {bad err : Int} {w : World} (h : RX r s a bad err w) (hb : r ≠ b) (x0 x1 x2 x3 : Value) : RX r s a bad err ((((w.setCell ⟨b, 0, none⟩ x0).setCell ⟨b, 1, none⟩ x1).setCell ⟨b, 2, none⟩ x2).setCell ⟨b, 3, none⟩ x3) :=
  h.heap (by rw [heap_set_ne _ hb, heap_set_ne _ hb, heap_set_ne _ hb, heap_set_ne _ hb])
/-- What the reference's reading of a value leaves. -/
def RvP (r : Nat) (s : ByteArray) (bad : Int) (w : World) : RR → Ending → World → Prop
  | .ok (t, a', _), e, w' => ∃ cs bs, e = .returned (.agg cs.toArray) ∧ HasP w' (plainOf t) cs bs ∧ (∀ g ∈ bs, w.heap.size ≤ g) ∧ RX r s a' bad 0 w' ∧ KB r w w'
  | .error (p, c), e, w' => (∃ x y sv la ln lc, e = .returned (.agg #[.int .i64 x, .int .i64 y, .string sv, .slice la ln lc])) ∧ (∃ a', RX r s a' p c w') ∧ (c == 0) = false ∧ KB r w w'
def RvQ (r : Nat) (s : ByteArray) (bad : Int) (w : World) (x : RR) (e : Ending) (w' : World) : Prop := RvP r s bad w x e w'
/-- How far the reader has yet to go: nought once it has gone wrong. -/
def rxM (S r : Nat) (w : World) : Nat := match w.cell? ⟨r, 3, none⟩, w.cell? ⟨r, 1, none⟩ with
  | some (.int _ e), some (.int _ q) => if e = 0 then S + 2 - q.toNat else 0
  | _, _ => 0
theorem rxM_ok {r : Nat} {s : ByteArray} {a : Nat} {bad : Int} {w : World} (S : Nat) (h : RX r s a bad 0 w) : rxM S r w = S + 2 - a := by
  unfold rxM; rw [h.c.c3, h.c.c1]; simp
theorem rxM_err {r : Nat} {s : ByteArray} {a : Nat} {bad err : Int} {w : World} (S : Nat) (h : RX r s a bad err w) (he : (err == 0) = false) : rxM S r w = 0 := by
  unfold rxM; rw [h.c.c3, h.c.c1]; have : ¬ err = 0 := by simpa using he
  simp [this]
theorem textF_pk (s : ByteArray) (k p : Nat) (acc : List UInt8) : textF s.data.toList (k + 1) p acc =
    if pkI s p < 32 ∨ 126 < pkI s p then .error p
    else if pkI s p = 34 then .ok (acc, p + 1)
    else if pkI s p = 92 then (match escR s.data.toList (p + 1) with
      | .error q => .error q
      | .ok (x, a') => textF s.data.toList k (a' + 1) (acc ++ [x]))
    else textF s.data.toList k (p + 1) (acc ++ [UInt8.ofNat (pkI s p).toNat]) := by
  rw [textF]
  cases h : s.data.toList[p]? with
  | none => rw [pkI_none h]; simp
  | some c =>
    rw [pkI_some h]
    simp only
    have e : UInt8.ofNat ((c.toNat : Int)).toNat = c := by simp
    rw [e]
    by_cases h1 : c.toNat < 32 ∨ 126 < c.toNat
    · rw [if_pos h1, if_pos (show (c.toNat : Int) < 32 ∨ 126 < (c.toNat : Int) by omega)]
    · rw [if_neg h1, if_neg (show ¬ ((c.toNat : Int) < 32 ∨ 126 < (c.toNat : Int)) by omega)]
      by_cases h2 : c.toNat = 34
      · rw [if_pos h2, if_pos (show (c.toNat : Int) = 34 by omega)]
      · rw [if_neg h2, if_neg (show ¬ (c.toNat : Int) = 34 by omega)]
        by_cases h3 : c.toNat = 92
        · rw [if_pos h3, if_pos (show (c.toNat : Int) = 92 by omega)]
          cases escR s.data.toList (p + 1) <;> rfl
        · rw [if_neg h3, if_neg (show ¬ (c.toNat : Int) = 92 by omega)]
theorem zero_cells {w : World} {N : Nat} (h : w.heap[N]? = some (.cells #[.int .i64 0, .int .i64 0, .string ⟨#[]⟩, .slice none 0 0] 27 (0, 0))) : (w.cell? ⟨N, 0, none⟩ = some (.int .i64 0) ∧ w.frozen? ⟨N, 0, none⟩ = false) ∧ (w.cell? ⟨N, 1, none⟩ = some (.int .i64 0) ∧ w.frozen? ⟨N, 1, none⟩ = false) ∧ (w.cell? ⟨N, 2, none⟩ = some (.string ⟨#[]⟩) ∧ w.frozen? ⟨N, 2, none⟩ = false) ∧ (w.cell? ⟨N, 3, none⟩ = some (.slice none 0 0) ∧ w.frozen? ⟨N, 3, none⟩ = false) :=
  ⟨heapcell h 0, heapcell h 1, heapcell h 2, heapcell h 3⟩
set_option maxHeartbeats 8000000 in
theorem rxtext_any (r : Nat) (s : ByteArray) (a z : Nat) (bad : Int) (w : World) (h : RX r s a bad 0 w) (ha : a < s.size) (hs : s.size ≤ 1048576) :
    Calls Tryz.prog 65 #[.pointer (some ⟨r, 0, none⟩)] w (RvQ r s bad w (textV z (textF s.data.toList (s.size + 1) (a + 1) []))) := by
  have H := Lib.hid h
  have hrl := h.lt
  have hXB := h.heap (Below.heap_alloc w (.cells #[.int .i64 0, .int .i64 0, .string ⟨#[]⟩, .slice none 0 0] 27) r hrl)
  obtain ⟨c0, c1, c2, c3, f1, f2, f3⟩ := hXB.c
  clear h hXB
  obtain ⟨i0, hi, hz0, hz1, hz2⟩ := info_parts infoB
  have HI0 := Lib.hid hi
  have HZ0 := Lib.hid hz0
  have HZ1 := Lib.hid hz1
  have HZ2 := Lib.hid hz2
  clear hi hz0 hz1 hz2
  obtain ⟨N, hN⟩ : ∃ N, N = w.heap.size := ⟨_, rfl⟩
  have HRN : Hid (r ≠ N) := Lib.hid (by omega)
  have HRL := Lib.hid hrl
  have HXA := Lib.hid ((H.out.heap (Below.heap_alloc w (.cells #[.int .i64 0, .int .i64 0, .string ⟨#[]⟩, .slice none 0 0] 27) r hrl)).to (a + 1))
  have HNZ := heap_alloc_new w (.cells #[.int .i64 0, .int .i64 0, .string ⟨#[]⟩, .slice none 0 0] 27)
  rw [← hN] at HNZ
  have HNZ : Hid (((w.alloc (.cells #[.int .i64 0, .int .i64 0, .string ⟨#[]⟩, .slice none 0 0] 27)).setCell ⟨r, 1, none⟩ (.int .i64 (a + 1 : Nat))).heap[N]? = some (.cells #[.int .i64 0, .int .i64 0, .string ⟨#[]⟩, .slice none 0 0] 27 (0, 0))) := Lib.hid ((heap_set_ne _ (fun e => HRN.out e.symm)).trans HNZ)
  have HKA : Hid (KB r w ((w.alloc (.cells #[.int .i64 0, .int .i64 0, .string ⟨#[]⟩, .slice none 0 0] 27)).setCell ⟨r, 1, none⟩ (.int .i64 (a + 1 : Nat)))) := Lib.hid (((KB.refl r w).alloc _).trans (KB.set 1 _))
  have HSZA : N + 1 ≤ ((w.alloc (.cells #[.int .i64 0, .int .i64 0, .string ⟨#[]⟩, .slice none 0 0] 27)).setCell ⟨r, 1, none⟩ (.int .i64 (a + 1 : Nat))).heap.size := by simp [World.setCell]; omega
  have HSZA := Lib.hid HSZA
  have HN := Lib.hid hN
  clear hN hrl
  obtain ⟨T, hT⟩ : ∃ T, T = textF s.data.toList (s.size + 1) (a + 1) [] := ⟨_, rfl⟩
  rw [← hT]
  have HT := Lib.hid hT
  clear hT
  go_enter Tryz.func65, Tryz.ntmps65
  go_wp2_with fail
  have hN := HN.out
  simp only [← hN]
  clear hN c0 c1 c2 c3 f1 f2 f3
  go_loopw [3] (fun u wr => Hid (wr.heap[N]? = some (.cells #[.int .i64 0, .int .i64 0, .string ⟨#[]⟩, .slice none 0 0] 27 (0, 0))) ∧ Hid (KB r w wr) ∧ Hid (N + 1 ≤ wr.heap.size) ∧
      ((∃ (k p : Nat) (acc : List UInt8) (bv : Value), bv = u ∧ p ≤ s.size ∧ acc.length ≤ p ∧ s.size < p + k ∧ Hid (wr.ownsRow (N + 1) 5 1 bv acc.length (Lib.byteCells acc)) ∧ Hid (RX r s p bad 0 wr) ∧ Hid (textF s.data.toList k p acc = T)) ∨
       (∃ q, Hid (RX r s q q 5 wr) ∧ Hid (T = .error q))))
    (fun _ wr => rxM s.size r wr)
  case atStart => exact ⟨HNZ, HKA, HSZA, .inl ⟨s.size + 1, a + 1, [], _, rfl, by omega, by simp, by omega, Lib.hid (World.ownsRow_nil _ _ _ _), HXA, Lib.hid HT.out.symm⟩⟩
  case round =>
    obtain ⟨hnz, hkb, hsz, hrel⟩ := hrel
    rcases hrel with ⟨k, p, acc, bv, rfl, hp, hacc, hk, hown, hrd, heq⟩ | ⟨q, hrd, heq⟩
    · obtain ⟨k, rfl⟩ : ∃ j, k = j + 1 := ⟨k - 1, by omega⟩
      obtain ⟨c0, c1, c2, c3, f1, f2, f3⟩ := hrd.out.c
      have HPK := Lib.hid (peek_any r s p bad 0 wr hrd.out hp hs)
      rw [show textF s.data.toList (k + 1) p acc = _ from textF_pk s k p acc] at heq
      have hb0 := pkI_bd s p
      have HLT := Lib.hid (fun h => pkI_lt (s := s) (a := p) hp h)
      generalize pkI s p = pk at heq hb0 HLT HPK
      by_cases h34 : pk = 34
      · subst h34
        rw [if_neg (by omega), if_pos rfl] at heq
        obtain ⟨la, lc, rfl, hmx, hconv⟩ := conv9 hown.out
        have HC := Lib.hid hconv
        have HBA := Lib.hid (fun g (hg : la = some ⟨g, 0, none⟩) => (hown.out.lt g (by rw [hg]; rfl)).1)
        clear hconv
        go_wp2_with fail
        refine HPK.out.mono ?_
        rintro e w1 ⟨rfl, m, rfl⟩
        have hX1 : RX r s p bad 0 (wr.drewN m) := hrd.out.heap rfl
        have HX1 := Lib.hid (hX1.to (p + 1))
        have HK1 := Lib.hid ((hkb.out.trans (KB.drewN m)).trans (KB.set 1 (.int .i64 (p + 1 : Nat))))
        have HN1 : Hid (((wr.drewN m).setCell ⟨r, 1, none⟩ (.int .i64 (p + 1 : Nat))).heap[N]? = some (.cells #[.int .i64 0, .int .i64 0, .string ⟨#[]⟩, .slice none 0 0] 27 (0, 0))) := Lib.hid ((heap_set_ne _ (fun e => HRN.out e.symm)).trans hnz.out)
        have e1 : ((p + 1 : Nat) : Int) = (p : Int) + 1 := by omega
        rw [e1] at HX1 HK1 HN1
        obtain ⟨⟨q0, g0⟩, ⟨q1, g1⟩, ⟨q2, g2⟩, ⟨q3, g3⟩⟩ := zero_cells HN1.out
        clear hX1 e1
        go_wp2_with fail
        rw [HC.out _ (fun g e => ?_)]
        · simp only [Result.andThen]
          rw [Oper.upon_value]
          go_wp2_with fail
          refine bodyPost_ret (v := .agg #[.int .i64 4, .int .i64 0, .string ⟨acc.toArray⟩, .slice none 0 0]) (by simp [results, Tryz.results65, go_sem, q0, q1, q2, q3]) rfl ?_
          show RvP _ _ _ _ _ _ _
          rw [← heq.out]
          have hNs := HN.out
          refine ⟨[.int .i64 4, .int .i64 0, .string ⟨acc.toArray⟩, .slice none 0 0], [], rfl, ⟨?_, by simp, none, 0, rfl, .inl ⟨rfl, rfl⟩⟩, by simp, HX1.out.set4 HRN.out _ _ _ _, HK1.out.set4 (by omega) _ _ _ _⟩
          show acc.length ≤ _
          omega
        · have h1 := HBA.out g e
          have h2 := HRL.out
          have h3 := HN.out
          exact (Below.heap_setCell _ _ _ _ (by simp; omega))
      · have b34 : (pk == 34) = false := by simpa using h34
        by_cases h92 : pk = 92
        · subst h92
          rw [if_neg (by omega), if_neg (by omega), if_pos rfl] at heq
          have hlt : p < s.size := HLT.out (by omega)
          have hesc : ∀ x a', escR s.data.toList (p + 1) = .ok (x, a') → p + 1 ≤ a' ∧ a' < s.data.toList.length := fun x a' h => escR_bd h
          have HB := Lib.hid hesc
          clear hesc
          go_wp2_with fail
          refine HPK.out.mono ?_
          rintro e w1 ⟨rfl, m, rfl⟩
          have hX1 : RX r s p bad 0 (wr.drewN m) := hrd.out.heap rfl
          have HX1 := Lib.hid (hX1.to (p + 1))
          have HK1 := Lib.hid ((hkb.out.trans (KB.drewN m)).trans (KB.set 1 (.int .i64 (p + 1 : Nat))))
          have HN1 : Hid (((wr.drewN m).setCell ⟨r, 1, none⟩ (.int .i64 (p + 1 : Nat))).heap[N]? = some (.cells #[.int .i64 0, .int .i64 0, .string ⟨#[]⟩, .slice none 0 0] 27 (0, 0))) := Lib.hid ((heap_set_ne _ (fun e => HRN.out e.symm)).trans hnz.out)
          have HO1 : Hid (((wr.drewN m).setCell ⟨r, 1, none⟩ (.int .i64 (p + 1 : Nat))).ownsRow (N + 1) 5 1 bv acc.length (Lib.byteCells acc)) := ownsRow_keep hown.out (fun g hg => Below.heap_setCell _ _ _ _ (by have h1 := (hown.out.lt g hg).1; have h2 := HRL.out; have h3 := HN.out; simp; omega))
          have HS1 : Hid (N + 1 ≤ ((wr.drewN m).setCell ⟨r, 1, none⟩ (.int .i64 (p + 1 : Nat))).heap.size) := Lib.hid (by have := hsz.out; simpa [World.setCell] using this)
          clear hX1
          have e1 : ((p + 1 : Nat) : Int) = (p : Int) + 1 := by omega
          rw [e1] at HX1 HK1 HN1 HO1 HS1
          clear e1
          go_wp2_with fail
          generalize ((wr.drewN m).setCell ⟨r, 1, none⟩ (.int .i64 ((p : Int) + 1))) = W1 at HX1 HK1 HN1 HO1 HS1 ⊢
          refine (resc_any r s (p + 1) bad W1 HX1.out (by omega) hs).mono ?_
          cases hx : escR s.data.toList (p + 1) with
          | error q =>
            rw [hx] at heq
            intro e w2 hq
            obtain ⟨rfl, hr2, hk2⟩ : EsX r s bad W1 (.error q) e w2 := hq
            have HR2 := Lib.hid hr2
            have HK2 := Lib.hid (HK1.out.trans hk2)
            have HO2 : Hid (w2.ownsRow (N + 1) 5 1 bv acc.length (Lib.byteCells acc)) := ownsRow_keep HO1.out (fun g hg => hk2.block g (HO1.out.lt g hg).2 (by have h1 := (HO1.out.lt g hg).1; have h2 := HRL.out; have h3 := HN.out; simp; omega))
            have HN2 : Hid (w2.heap[N]? = some (.cells #[.int .i64 0, .int .i64 0, .string ⟨#[]⟩, .slice none 0 0] 27 (0, 0))) := Lib.hid ((hk2.block N (by have := HS1.out; omega) (by have := HRN.out; simp; omega)).trans HN1.out)
            have HS2 : Hid (N + 1 ≤ w2.heap.size) := Lib.hid (Nat.le_trans HS1.out hk2.size)
            have HX := Lib.hid hx
            clear hx hr2 hk2
            go_wp2_with (at_builtin; refine wpList_append_own _ rfl _ _ 63 rfl (N + 1) 5 i0 (.int .u8 0) 1 1 Tryz.underlying63 HI0.out HZ0.out HZ1.out HZ2.out rfl (by decide) _ _ _ rfl (HO2.out.alloc _) ⟨w2.heap.size, 0, none⟩ 1 1 [.int .u8 0] rfl rfl ?c1 ?c2 ?c3 ?c4 ?c5 ?_)
            case c1 => exact one_new _ _ _
            case c2 => intro u hu; simp at hu; subst hu; rfl
            case c3 => unfold maxLen; omega
            case c4 => omega
            case c5 => have := HS2.out; simp; omega
            intro bv' w3 hown' hgrow _
            have hne : bv.ownBlock ≠ some r := fun e => by have h1 := (HO2.out.lt r e).1; have h2 := HRL.out; have h3 := HN.out; omega
            have hneN : bv.ownBlock ≠ some N := fun e => by have h1 := (HO2.out.lt N e).1; omega
            have hgs := hgrow.size
            have hk3 := hgrow
            have HR3 : Hid (RX r s q q 5 w3) := Lib.hid (HR2.out.heap (by rw [hgrow.block r (by simp; have := HR2.out.lt; omega) (fun e => hne e.symm), Below.heap_alloc _ _ _ HR2.out.lt]))
            have HN3 : Hid (w3.heap[N]? = some (.cells #[.int .i64 0, .int .i64 0, .string ⟨#[]⟩, .slice none 0 0] 27 (0, 0))) := Lib.hid (by rw [hgrow.block N (by simp; have := HS2.out; omega) (fun e => hneN e.symm), Below.heap_alloc _ _ _ (by have := HS2.out; omega)]; exact HN2.out)
            have HK3 : Hid (KB r w w3) := by
              have h1 := HK2.out
              have h2 := HN.out
              have h4 := h1.size
              refine ⟨hgrow.os.trans h1.os, hgrow.tape.trans h1.tape, hgrow.output.trans h1.output, by simp at hgs; omega, fun g hg hgr => ?_⟩
              rw [hgrow.block g (by simp; omega) (fun e => by have h3 := (HO2.out.lt g e.symm).1; omega), Below.heap_alloc _ _ _ (by omega)]
              exact h1.block g hg hgr
            have HS3 : Hid (N + 1 ≤ w3.heap.size) := Lib.hid (by have := HS2.out; simp at hgs; omega)
            clear hown' hgrow hne hneN hgs hk3
            go_wp2_with fail
            go_roundw
            case rel => exact ⟨HN3, HK3, HS3, .inr ⟨q, HR3, Lib.hid heq.out.symm⟩⟩
            case measure => rw [rxM_err _ HR3.out rfl, rxM_ok _ hrd.out]; omega
          | ok xa =>
            obtain ⟨x, a'⟩ := xa
            have hbd := HB.out x a' hx
            have hsz2 : s.data.toList.length = s.size := by simp
            rw [hx] at heq
            intro e w2 hq
            obtain ⟨rfl, hr2, hk2⟩ : EsX r s bad W1 (.ok (x, a')) e w2 := hq
            have HR2 := Lib.hid hr2
            have HK2 := Lib.hid (HK1.out.trans hk2)
            have HO2 : Hid (w2.ownsRow (N + 1) 5 1 bv acc.length (Lib.byteCells acc)) := ownsRow_keep HO1.out (fun g hg => hk2.block g (HO1.out.lt g hg).2 (by have h1 := (HO1.out.lt g hg).1; have h2 := HRL.out; have h3 := HN.out; simp; omega))
            have HN2 : Hid (w2.heap[N]? = some (.cells #[.int .i64 0, .int .i64 0, .string ⟨#[]⟩, .slice none 0 0] 27 (0, 0))) := Lib.hid ((hk2.block N (by have := HS1.out; omega) (by have := HRN.out; simp; omega)).trans HN1.out)
            have HS2 : Hid (N + 1 ≤ w2.heap.size) := Lib.hid (Nat.le_trans HS1.out hk2.size)
            have HX := Lib.hid hx
            clear hx hr2 hk2
            go_wp2_with (at_builtin; refine wpList_append_own _ rfl _ _ 63 rfl (N + 1) 5 i0 (.int .u8 0) 1 1 Tryz.underlying63 HI0.out HZ0.out HZ1.out HZ2.out rfl (by decide) _ _ _ rfl (HO2.out.alloc _) ⟨w2.heap.size, 0, none⟩ 1 1 [.int .u8 x.toNat] rfl rfl ?c1 ?c2 ?c3 ?c4 ?c5 ?_)
            case c1 => exact one_new _ _ _
            case c2 => intro u hu; simp at hu; subst hu; rfl
            case c3 => unfold maxLen; omega
            case c4 => omega
            case c5 => have := HS2.out; simp; omega
            intro bv' w3 hown' hgrow _
            have hne : bv.ownBlock ≠ some r := fun e => by have h1 := (HO2.out.lt r e).1; have h2 := HRL.out; have h3 := HN.out; omega
            have hneN : bv.ownBlock ≠ some N := fun e => by have h1 := (HO2.out.lt N e).1; omega
            have hgs := hgrow.size
            have HR3 : Hid (RX r s (a' + 1) bad 0 w3) := Lib.hid (HR2.out.heap (by rw [hgrow.block r (by simp; have := HR2.out.lt; omega) (fun e => hne e.symm), Below.heap_alloc _ _ _ HR2.out.lt]))
            have HN3 : Hid (w3.heap[N]? = some (.cells #[.int .i64 0, .int .i64 0, .string ⟨#[]⟩, .slice none 0 0] 27 (0, 0))) := Lib.hid (by rw [hgrow.block N (by simp; have := HS2.out; omega) (fun e => hneN e.symm), Below.heap_alloc _ _ _ (by have := HS2.out; omega)]; exact HN2.out)
            have HK3 : Hid (KB r w w3) := by
              have h1 := HK2.out
              have h2 := HN.out
              have h4 := h1.size
              refine ⟨hgrow.os.trans h1.os, hgrow.tape.trans h1.tape, hgrow.output.trans h1.output, by simp at hgs; omega, fun g hg hgr => ?_⟩
              rw [hgrow.block g (by simp; omega) (fun e => by have h3 := (HO2.out.lt g e.symm).1; omega), Below.heap_alloc _ _ _ (by omega)]
              exact h1.block g hg hgr
            have HS3 : Hid (N + 1 ≤ w3.heap.size) := Lib.hid (by have := HS2.out; simp at hgs; omega)
            have HO3 : Hid (w3.ownsRow (N + 1) 5 1 bv' (acc ++ [x]).length (Lib.byteCells (acc ++ [x]))) := Lib.hid (by simpa [Lib.byteCells] using hown')
            clear hown' hgrow hne hneN hgs
            go_wp2_with fail
            go_roundw
            case rel => exact ⟨HN3, HK3, HS3, .inl ⟨k, a' + 1, acc ++ [x], bv', rfl, by omega, by simp; omega, by omega, HO3, HR3, heq⟩⟩
            case measure => rw [rxM_ok _ HR3.out, rxM_ok _ hrd.out]; omega
        · have b92 : (pk == 92) = false := by simpa using h92
          by_cases hrange : pk < 32 ∨ 126 < pk
          · rw [if_pos hrange] at heq
            rcases hrange with hlo | hhi
            all_goals
              go_wp2_with fail
              refine HPK.out.mono ?_
              rintro e w1 ⟨rfl, m, rfl⟩
              have HX1 : Hid (RX r s p bad 0 (wr.drewN m)) := Lib.hid (hrd.out.heap rfl)
              have HS1 : Hid (N + 1 ≤ (wr.drewN m).heap.size) := hsz
              have HN1 : Hid ((wr.drewN m).heap[N]? = some (.cells #[.int .i64 0, .int .i64 0, .string ⟨#[]⟩, .slice none 0 0] 27 (0, 0))) := hnz
              have HK1 := Lib.hid (hkb.out.trans (KB.drewN m))
              clear c0 c1 c2 c3 f1 f2 f3
              obtain ⟨c0, c1, c2, c3, f1, f2, f3⟩ := HX1.out.c
              generalize (wr.drewN m) = W1 at HX1 HS1 HN1 HK1 c0 c1 c2 c3 f1 f2 f3 ⊢
              go_wp2_with fail
              refine (fail_first r s p bad 5 _ _ HX1.out).mono ?_
              rintro e w9 ⟨rfl, hx9, hk9⟩
              have HX9 := Lib.hid hx9
              have HK9 := Lib.hid (HK1.out.trans hk9)
              have HN9 : Hid (w9.heap[N]? = some (.cells #[.int .i64 0, .int .i64 0, .string ⟨#[]⟩, .slice none 0 0] 27 (0, 0))) := Lib.hid ((hk9.block N (by have := HS1.out; omega) (by have := HRN.out; simp; omega)).trans HN1.out)
              have HS9 : Hid (N + 1 ≤ w9.heap.size) := Lib.hid (Nat.le_trans HS1.out hk9.size)
              clear hx9 hk9
              go_wp2_with fail
              go_roundw
              case rel => exact ⟨HN9, HK9, HS9, .inr ⟨p, HX9, Lib.hid heq.out.symm⟩⟩
              case measure => rw [rxM_err _ HX9.out rfl, rxM_ok _ hrd.out]; omega
          · rw [if_neg hrange, if_neg h34, if_neg h92] at heq
            have hlt : p < s.size := HLT.out (by omega)
            have n32 : ¬ pk < 32 := by omega
            have n126 : ¬ 126 < pk := by omega
            have hwr : IntKind.u8.wrap pk = pk := by unfold IntKind.wrap; simp [IntKind.bits, IntKind.signed]; omega
            have HBY : Hid (((UInt8.ofNat pk.toNat).toNat : Int) = pk) := Lib.hid (by rw [UInt8.toNat_ofNat', Nat.mod_eq_of_lt (by omega)]; omega)
            obtain ⟨x, hx⟩ : ∃ x, x = UInt8.ofNat pk.toNat := ⟨_, rfl⟩
            rw [← hx] at heq HBY
            go_wp2_with fail
            refine HPK.out.mono ?_
            rintro e w1 ⟨rfl, m, rfl⟩
            have hX1 : RX r s p bad 0 (wr.drewN m) := hrd.out.heap rfl
            have HX1 := Lib.hid (hX1.to (p + 1))
            have HK1 := Lib.hid ((hkb.out.trans (KB.drewN m)).trans (KB.set 1 (.int .i64 (p + 1 : Nat))))
            have HN2 : Hid (((wr.drewN m).setCell ⟨r, 1, none⟩ (.int .i64 (p + 1 : Nat))).heap[N]? = some (.cells #[.int .i64 0, .int .i64 0, .string ⟨#[]⟩, .slice none 0 0] 27 (0, 0))) := Lib.hid ((heap_set_ne _ (fun e => HRN.out e.symm)).trans hnz.out)
            have HO2 : Hid (((wr.drewN m).setCell ⟨r, 1, none⟩ (.int .i64 (p + 1 : Nat))).ownsRow (N + 1) 5 1 bv acc.length (Lib.byteCells acc)) := ownsRow_keep hown.out (fun g hg => Below.heap_setCell _ _ _ _ (by have h1 := (hown.out.lt g hg).1; have h2 := HRL.out; have h3 := HN.out; simp; omega))
            have HS2 : Hid (N + 1 ≤ ((wr.drewN m).setCell ⟨r, 1, none⟩ (.int .i64 (p + 1 : Nat))).heap.size) := Lib.hid (by have := hsz.out; simpa [World.setCell] using this)
            have e1 : ((p + 1 : Nat) : Int) = (p : Int) + 1 := by omega
            rw [e1] at HX1 HK1 HN2 HO2 HS2
            clear hX1 hx e1
            go_wp2_with (at_builtin; refine wpList_append_own _ rfl _ _ 63 rfl (N + 1) 5 i0 (.int .u8 0) 1 1 Tryz.underlying63 HI0.out HZ0.out HZ1.out HZ2.out rfl (by decide) _ _ _ rfl (HO2.out.alloc _) ⟨wr.heap.size, 0, none⟩ 1 1 [.int .u8 pk] rfl rfl ?c1 ?c2 ?c3 ?c4 ?c5 ?_)
            case c1 =>
              have h1 := one_new ((wr.drewN m).setCell ⟨r, 1, none⟩ (.int .i64 ((p : Int) + 1))) (.int .u8 pk) 5
              rw [show ((wr.drewN m).setCell ⟨r, 1, none⟩ (.int .i64 ((p : Int) + 1))).heap.size = wr.heap.size from by simp [World.setCell]] at h1
              exact h1
            case c2 => intro u hu; simp at hu; subst hu; rfl
            case c3 => unfold maxLen; omega
            case c4 => omega
            case c5 => have := HS2.out; simp at this ⊢; omega
            intro bv' w3 hown' hgrow _
            generalize ((wr.drewN m).setCell ⟨r, 1, none⟩ (.int .i64 ((p : Int) + 1))) = w2 at HX1 HK1 HN2 HO2 HS2 hown' hgrow
            have hne : bv.ownBlock ≠ some r := fun e => by have h1 := (HO2.out.lt r e).1; have h2 := HRL.out; have h3 := HN.out; omega
            have hneN : bv.ownBlock ≠ some N := fun e => by have h1 := (HO2.out.lt N e).1; omega
            have hgs := hgrow.size
            have HR3 : Hid (RX r s (p + 1) bad 0 w3) := Lib.hid (HX1.out.heap (by rw [hgrow.block r (by simp; have := HX1.out.lt; omega) (fun e => hne e.symm), Below.heap_alloc _ _ _ HX1.out.lt]))
            have HN3 : Hid (w3.heap[N]? = some (.cells #[.int .i64 0, .int .i64 0, .string ⟨#[]⟩, .slice none 0 0] 27 (0, 0))) := Lib.hid (by rw [hgrow.block N (by simp; have := HS2.out; omega) (fun e => hneN e.symm), Below.heap_alloc _ _ _ (by have := HS2.out; omega)]; exact HN2.out)
            have HK3 : Hid (KB r w w3) := by
              have h1 := HK1.out
              have h2 := HN.out
              have h4 := h1.size
              refine ⟨hgrow.os.trans h1.os, hgrow.tape.trans h1.tape, hgrow.output.trans h1.output, by simp at hgs; omega, fun g hg hgr => ?_⟩
              rw [hgrow.block g (by simp; omega) (fun e => by have h3 := (HO2.out.lt g e.symm).1; omega), Below.heap_alloc _ _ _ (by omega)]
              exact h1.block g hg hgr
            have HS3 : Hid (N + 1 ≤ w3.heap.size) := Lib.hid (by have := HS2.out; simp at hgs; omega)
            have HO3 : Hid (w3.ownsRow (N + 1) 5 1 bv' (acc ++ [x]).length (Lib.byteCells (acc ++ [x]))) := Lib.hid (by have h := hown'; rw [← HBY.out] at h; simpa [Lib.byteCells] using h)
            clear hown' hgrow hne hneN hgs
            go_wp2_with fail
            go_roundw
            case rel => exact ⟨HN3, HK3, HS3, .inl ⟨k, p + 1, acc ++ [x], bv', rfl, by omega, by simp; omega, by omega, HO3, HR3, heq⟩⟩
            case measure => rw [rxM_ok _ HR3.out, rxM_ok _ hrd.out]; omega
    · obtain ⟨c0, c1, c2, c3, f1, f2, f3⟩ := hrd.out.c
      obtain ⟨⟨q0, g0⟩, ⟨q1, g1⟩, ⟨q2, g2⟩, ⟨q3, g3⟩⟩ := zero_cells hnz.out
      go_wp2_with fail
      refine bodyPost_ret (v := .agg #[.int .i64 0, .int .i64 0, .string ⟨#[]⟩, .slice none 0 0]) (by simp [results, Tryz.results65, go_sem, q0, q1, q2, q3]) rfl ?_
      show RvP _ _ _ _ _ _ _
      rw [heq.out]
      have hNs := HN.out
      exact ⟨⟨_, _, _, _, _, _, rfl⟩, ⟨q, hrd.out.set4 HRN.out _ _ _ _⟩, rfl, hkb.out.set4 (by omega) _ _ _ _⟩
end

section
open Go.RowKit
set_option maxRecDepth 100000
abbrev zc27 : Obj := .cells #[.int .i64 0, .int .i64 0, .string ⟨#[]⟩, .slice none 0 0] 27 (0, 0)
theorem digN_pk (s : ByteArray) (k p v : Nat) : digN s.data.toList (k + 1) p v = if 48 ≤ pkI s p ∧ pkI s p ≤ 57 then digN s.data.toList k (p + 1) (v * 10 + (pkI s p - 48).toNat) else (p, v) := by
  rw [digN]
  cases h : s.data.toList[p]? with
  | none => rw [pkI_none h]; simp
  | some d =>
    rw [pkI_some h]
    simp only
    by_cases hd : 48 ≤ d.toNat ∧ d.toNat ≤ 57
    · rw [if_pos hd, if_pos (show 48 ≤ (d.toNat : Int) ∧ (d.toNat : Int) ≤ 57 by omega), show ((d.toNat : Int) - 48).toNat = d.toNat - 48 from by omega]
    · rw [if_neg hd, if_neg (show ¬ (48 ≤ (d.toNat : Int) ∧ (d.toNat : Int) ≤ 57) by omega)]
theorem numY_ok {neg : Bool} {a z e v : Nat} (h : v < 9223372036854775808 ∨ (v = 9223372036854775808 ∧ neg = true)) : numY neg a z (e, v) = .ok (.int (if neg then -(v : Int) else v), e, z) := by
  unfold numY
  rw [if_neg (fun hh => by
    rcases h with h | ⟨h1, h2⟩
    · rcases hh with hh | ⟨hh, _⟩
      · exact absurd hh (by show ¬ _ < v; omega)
      · have hh : v = _ := hh
        omega
    · rcases hh with hh | ⟨_, hh⟩
      · have hh : _ < v := hh
        omega
      · rw [h2] at hh; cases hh)]
theorem numY_no {neg : Bool} {a z e v : Nat} (h : 9223372036854775808 < v ∨ (v = 9223372036854775808 ∧ neg = false)) : numY neg a z (e, v) = .error (a, 21) := by
  unfold numY
  rw [if_pos h]
theorem wrap_min : wrap64 (-wrap64 9223372036854775808) = -9223372036854775808 := by unfold wrap64; omega
theorem s_at45 {s : ByteArray} {a : Nat} (h : a < s.size) : (s[a].toNat : Int) = pkI s a := (pkI_at h).symm
set_option maxHeartbeats 8000000 in
theorem rxnum_pos (r : Nat) (s : ByteArray) (a z : Nat) (bad : Int) (w : World) (h : RX r s a bad 0 w) (ha : a < s.size) (hs : s.size ≤ 1048576) (h48 : 49 ≤ pkI s a ∧ pkI s a ≤ 57) :
    Calls Tryz.prog 64 #[.pointer (some ⟨r, 0, none⟩)] w (RvQ r s bad w (numY false a z (digN s.data.toList (s.size + 2) a 0))) := by
  have H := Lib.hid h
  have hrl := h.lt
  have hXB := h.heap (Below.heap_alloc w (.cells #[.int .i64 0, .int .i64 0, .string ⟨#[]⟩, .slice none 0 0] 27) r hrl)
  obtain ⟨c0, c1, c2, c3, f1, f2, f3⟩ := hXB.c
  clear h hXB
  obtain ⟨N, hN⟩ : ∃ N, N = w.heap.size := ⟨_, rfl⟩
  have HRN : Hid (r ≠ N) := Lib.hid (by omega)
  have HRL := Lib.hid hrl
  have HX0 := Lib.hid (H.out.heap (Below.heap_alloc w (.cells #[.int .i64 0, .int .i64 0, .string ⟨#[]⟩, .slice none 0 0] 27) r hrl))
  have HNZ := heap_alloc_new w (.cells #[.int .i64 0, .int .i64 0, .string ⟨#[]⟩, .slice none 0 0] 27)
  rw [← hN] at HNZ
  have HNZ : Hid ((w.alloc (.cells #[.int .i64 0, .int .i64 0, .string ⟨#[]⟩, .slice none 0 0] 27)).heap[N]? = some zc27) := Lib.hid HNZ
  have HKA : Hid (KB r w (w.alloc (.cells #[.int .i64 0, .int .i64 0, .string ⟨#[]⟩, .slice none 0 0] 27))) := Lib.hid ((KB.refl r w).alloc _)
  have HN := Lib.hid hN
  clear hN hrl
  have HPK := Lib.hid (fun (q : Nat) (w' : World) (h : RX r s q bad 0 w') (hq : q ≤ s.size) => peek_any r s q bad 0 w' h hq hs)
  have hsa := s_at45 ha
  have b45 : ((s[a].toNat : Int) == 45) = false := by simp; omega
  have n45 : ((s[a].toNat : Int) != 45) = true := by simp; omega
  have p45 : (pkI s a == 45) = false := by simp; omega
  clear hsa
  have HPa := Lib.hid (HPK.out a)
  have HPb := Lib.hid (HPK.out a)
  have hb48 : (pkI s a == 48) = false := by simp; omega
  have hlo : ¬ pkI s a < 48 := by omega
  have hhi : ¬ 57 < pkI s a := by omega
  clear h48
  generalize pkI s a = first at HPa HPb hb48 hlo hhi p45
  go_enter Tryz.func64, Tryz.ntmps64
  go_wp2_with fail
  have hN := HN.out
  simp only [← hN]
  clear hN
  generalize (w.alloc (.cells #[.int .i64 0, .int .i64 0, .string ⟨#[]⟩, .slice none 0 0] 27)) = W0 at HX0 HNZ HKA ⊢
  obtain ⟨d0, d1, d2, d3, g1, g2, g3⟩ := HX0.out.c
  clear c0 c1 c2 c3 f1 f2 f3
  go_wp2_with fail
  refine (HPa.out _ HX0.out (by omega)).mono ?_
  rintro e w1 ⟨rfl, m, rfl⟩
  have HX1 : Hid (RX r s a bad 0 (W0.drewN m)) := Lib.hid (HX0.out.heap rfl)
  have HK1 := Lib.hid (HKA.out.trans (KB.drewN m))
  have HN1 : Hid ((W0.drewN m).heap[N]? = some zc27) := HNZ
  generalize (W0.drewN m) = W1 at HX1 HK1 HN1 ⊢
  clear d0 d1 d2 d3 g1 g2 g3
  obtain ⟨d0, d1, d2, d3, g1, g2, g3⟩ := HX1.out.c
  go_wp2_with fail
  have HX2 := HX1
  have HK2 := HK1
  have HN2 := HN1
  have W2 := W1
  refine (HPb.out _ HX2.out (by omega)).mono ?_
  rintro e w1 ⟨rfl, m, rfl⟩
  have HX3 : Hid (RX r s a bad 0 (W1.drewN m)) := Lib.hid (HX2.out.heap rfl)
  have HK3 := Lib.hid (HK2.out.trans (KB.drewN m))
  have HN3 : Hid ((W1.drewN m).heap[N]? = some zc27) := HN2
  generalize (W1.drewN m) = W3 at HX3 HK3 HN3 ⊢
  clear d0 d1 d2 d3 g1 g2 g3
  obtain ⟨d0, d1, d2, d3, g1, g2, g3⟩ := HX3.out.c
  go_wp2_with fail
  go_loopw [5, 6] (fun nv ov wr => ∃ (k p v : Nat) (n : Int) (o : Bool), nv = .int .u64 n ∧ ov = .bool o ∧ a ≤ p ∧ p ≤ s.size ∧ s.size < p + k ∧ Hid (wr.heap[N]? = some zc27) ∧ Hid (KB r w wr) ∧ Hid (RX r s p bad 0 wr) ∧
      Hid (digN s.data.toList k p v = digN s.data.toList (s.size + 2) a 0) ∧ ((o = false ∧ n = (v : Int) ∧ v ≤ 9223372036854775808) ∨ (o = true ∧ 9223372036854775808 < v)))
    (fun _ _ wr => rxM s.size r wr)
  case atStart => exact ⟨s.size + 2, a, 0, 0, false, rfl, rfl, by omega, by omega, by omega, HN3, HK3, HX3, Lib.hid rfl, .inl ⟨rfl, rfl, by omega⟩⟩
  case round =>
    obtain ⟨k, p, v, n, o, rfl, rfl, hbp, hp, hk, hnz, hkb, hrd, heq, hno⟩ := hrel
    obtain ⟨k, rfl⟩ : ∃ j, k = j + 1 := ⟨k - 1, by omega⟩
    rw [show digN s.data.toList (k + 1) p v = _ from digN_pk s k p v] at heq
    have hb0 := pkI_bd s p
    have HLT := Lib.hid (fun h => pkI_lt (s := s) (a := p) hp h)
    have HPp := Lib.hid (HPK.out p)
    clear d0 d1 d2 d3 g1 g2 g3
    generalize pkI s p = pk at heq hb0 HLT HPp
    by_cases hd : 48 ≤ pk ∧ pk ≤ 57
    · rw [if_pos hd] at heq
      obtain ⟨D, hD, hD9⟩ : ∃ D : Nat, pk = 48 + (D : Int) ∧ D ≤ 9 := ⟨(pk - 48).toNat, by omega, by omega⟩
      have hlt : p < s.size := HLT.out (by omega)
      obtain ⟨h4, h5⟩ := hd
      subst hD
      rw [show (48 + (D : Int) - 48).toNat = D from by omega] at heq
      go_wp2_with fail
      refine (HPp.out _ hrd.out (by omega)).mono ?_
      rintro e w1 ⟨rfl, m1, rfl⟩
      have HX4 : Hid (RX r s p bad 0 (wr.drewN m1)) := Lib.hid (hrd.out.heap rfl)
      have HK4 := Lib.hid (hkb.out.trans (KB.drewN m1))
      have HN4 : Hid ((wr.drewN m1).heap[N]? = some zc27) := hnz
      generalize (wr.drewN m1) = W4 at HX4 HK4 HN4 ⊢
      go_wp2_with fail
      refine (HPp.out _ HX4.out (by omega)).mono ?_
      rintro e w1 ⟨rfl, m2, rfl⟩
      have HX5 : Hid (RX r s p bad 0 (W4.drewN m2)) := Lib.hid (HX4.out.heap rfl)
      have HK5 := Lib.hid (HK4.out.trans (KB.drewN m2))
      have HN5 : Hid ((W4.drewN m2).heap[N]? = some zc27) := HN4
      generalize (W4.drewN m2) = W5 at HX5 HK5 HN5 ⊢
      go_wp2_with fail
      refine (HPp.out _ HX5.out (by omega)).mono ?_
      rintro e w1 ⟨rfl, m3, rfl⟩
      have HX6 : Hid (RX r s p bad 0 (W5.drewN m3)) := Lib.hid (HX5.out.heap rfl)
      have HK6 := Lib.hid (HK5.out.trans (KB.drewN m3))
      have HN6 : Hid ((W5.drewN m3).heap[N]? = some zc27) := HN5
      generalize (W5.drewN m3) = W6 at HX6 HK6 HN6 ⊢
      obtain ⟨d0, d1, d2, d3, g1, g2, g3⟩ := HX6.out.c
      have HX7 := Lib.hid (HX6.out.to (p + 1))
      have HK7 := Lib.hid (HK6.out.trans (KB.set 1 (.int .i64 (p + 1 : Nat))))
      have HN7 : Hid ((W6.setCell ⟨r, 1, none⟩ (.int .i64 (p + 1 : Nat))).heap[N]? = some zc27) := Lib.hid ((heap_set_ne _ (fun e => HRN.out e.symm)).trans HN6.out)
      have e1 : ((p + 1 : Nat) : Int) = (p : Int) + 1 := by omega
      rw [e1] at HX7 HK7 HN7
      clear e1
      rcases hno with ⟨rfl, rfl, hv⟩ | ⟨rfl, hv⟩
      · by_cases hov : v * 10 + D ≤ 9223372036854775808
        · have hc : ¬ ((9223372036854775808 - (D : Int)) / 10 < (v : Int)) := by omega
          go_wp2_with fail
          go_roundw
          case rel => exact ⟨k, p + 1, v * 10 + D, _, false, rfl, rfl, by omega, by omega, by omega, HN7, HK7, HX7, heq, .inl ⟨rfl, by omega, hov⟩⟩
          case measure => rw [rxM_ok _ HX7.out, rxM_ok _ hrd.out]; omega
        · have hc : (9223372036854775808 - (D : Int)) / 10 < (v : Int) := by omega
          go_wp2_with fail
          go_roundw
          case rel => exact ⟨k, p + 1, v * 10 + D, _, true, rfl, rfl, by omega, by omega, by omega, HN7, HK7, HX7, heq, .inr ⟨rfl, by omega⟩⟩
          case measure => rw [rxM_ok _ HX7.out, rxM_ok _ hrd.out]; omega
      · by_cases hc : (9223372036854775808 - (D : Int)) / 10 < n
        all_goals
          go_wp2_with fail
          go_roundw
          case rel => exact ⟨k, p + 1, v * 10 + D, _, true, rfl, rfl, by omega, by omega, by omega, HN7, HK7, HX7, heq, .inr ⟨rfl, by omega⟩⟩
          case measure => rw [rxM_ok _ HX7.out, rxM_ok _ hrd.out]; omega
    · rw [if_neg hd] at heq
      have key : ∀ W6 : World, RX r s p bad 0 W6 → KB r w W6 → W6.heap[N]? = some zc27 → True := fun _ _ _ _ => trivial
      have hd2 : pk < 48 ∨ (48 ≤ pk ∧ 57 < pk) := by omega
      clear hd
      rcases hd2 with h4 | ⟨h4, h5⟩
      · go_wp2_with fail
        refine (HPp.out _ hrd.out (by omega)).mono ?_
        rintro e w1 ⟨rfl, m1, rfl⟩
        have HX4 : Hid (RX r s p bad 0 (wr.drewN m1)) := Lib.hid (hrd.out.heap rfl)
        have HK4 := Lib.hid (hkb.out.trans (KB.drewN m1))
        have HN4 : Hid ((wr.drewN m1).heap[N]? = some zc27) := hnz
        generalize (wr.drewN m1) = W4 at HX4 HK4 HN4 ⊢
        have HX6 := HX4
        have HK6 := HK4
        have HN6 := HN4
        obtain ⟨W6, hW6⟩ : ∃ W6, W6 = W4 := ⟨_, rfl⟩
        subst hW6
        obtain ⟨d0, d1, d2, d3, g1, g2, g3⟩ := HX6.out.c
        obtain ⟨⟨q0, k0⟩, ⟨q1, k1⟩, ⟨q2, k2⟩, ⟨q3, k3⟩⟩ := zero_cells HN6.out
        rcases hno with ⟨rfl, rfl, hv⟩ | ⟨rfl, hv⟩
        · by_cases hmax : v = 9223372036854775808
          · subst hmax
            go_wp2_with fail
            refine (fail_first r s p bad 21 _ _ HX6.out).mono ?_
            rintro e w9 ⟨rfl, hx9, hk9⟩
            have HX9 := Lib.hid hx9
            have HK9 := Lib.hid (HK6.out.trans hk9)
            have HN9 : Hid (w9.heap[N]? = some zc27) := Lib.hid ((hk9.block N (Array.getElem?_eq_some_iff.1 HN6.out).1 (by have := HRN.out; simp; omega)).trans HN6.out)
            clear hx9 hk9 d0 d1 d2 d3 g1 g2 g3 q0 q1 q2 q3 k0 k1 k2 k3
            obtain ⟨⟨q0, k0⟩, ⟨q1, k1⟩, ⟨q2, k2⟩, ⟨q3, k3⟩⟩ := zero_cells HN9.out
            go_wp2_with fail
            refine bodyPost_ret (v := .agg #[.int .i64 0, .int .i64 0, .string ⟨#[]⟩, .slice none 0 0]) (by simp [results, Tryz.results64, go_sem, q0, q1, q2, q3]) rfl ?_
            show RvP _ _ _ _ _ _ _
            rw [← heq.out, numY_no (by simp)]
            have hNs := HN.out
            exact ⟨⟨_, _, _, _, _, _, rfl⟩, ⟨p, HX9.out.set4 HRN.out _ _ _ _⟩, rfl, HK9.out.set4 (by omega) _ _ _ _⟩
          · have bmax : ((v : Int) == 9223372036854775808) = false := by simp; omega
            go_wp2_with fail
            refine bodyPost_ret (v := .agg #[.int .i64 3, .int .i64 ((v : Int)), .string ⟨#[]⟩, .slice none 0 0]) (by simp [results, Tryz.results64, go_sem, q0, q1, q2, q3, wrap_min]) rfl ?_
            show RvP _ _ _ _ _ _ _
            rw [← heq.out, numY_ok (by first | exact .inl (by omega) | exact .inr ⟨rfl, rfl⟩)]
            have hNs := HN.out
            exact ⟨[.int .i64 3, .int .i64 ((v : Int)), .string ⟨#[]⟩, .slice none 0 0], [], rfl, ⟨by decide, by simp, none, 0, rfl, .inl ⟨rfl, rfl⟩⟩, by simp, HX6.out.set4 HRN.out _ _ _ _, HK6.out.set4 (by omega) _ _ _ _⟩
        · go_wp2_with fail
          refine (fail_first r s p bad 21 _ _ HX6.out).mono ?_
          rintro e w9 ⟨rfl, hx9, hk9⟩
          have HX9 := Lib.hid hx9
          have HK9 := Lib.hid (HK6.out.trans hk9)
          have HN9 : Hid (w9.heap[N]? = some zc27) := Lib.hid ((hk9.block N (Array.getElem?_eq_some_iff.1 HN6.out).1 (by have := HRN.out; simp; omega)).trans HN6.out)
          clear hx9 hk9 d0 d1 d2 d3 g1 g2 g3 q0 q1 q2 q3 k0 k1 k2 k3
          obtain ⟨⟨q0, k0⟩, ⟨q1, k1⟩, ⟨q2, k2⟩, ⟨q3, k3⟩⟩ := zero_cells HN9.out
          go_wp2_with fail
          refine bodyPost_ret (v := .agg #[.int .i64 0, .int .i64 0, .string ⟨#[]⟩, .slice none 0 0]) (by simp [results, Tryz.results64, go_sem, q0, q1, q2, q3]) rfl ?_
          show RvP _ _ _ _ _ _ _
          rw [← heq.out, numY_no (by exact .inl hv)]
          have hNs := HN.out
          exact ⟨⟨_, _, _, _, _, _, rfl⟩, ⟨p, HX9.out.set4 HRN.out _ _ _ _⟩, rfl, HK9.out.set4 (by omega) _ _ _ _⟩
      · go_wp2_with fail
        refine (HPp.out _ hrd.out (by omega)).mono ?_
        rintro e w1 ⟨rfl, m1, rfl⟩
        have HX4 : Hid (RX r s p bad 0 (wr.drewN m1)) := Lib.hid (hrd.out.heap rfl)
        have HK4 := Lib.hid (hkb.out.trans (KB.drewN m1))
        have HN4 : Hid ((wr.drewN m1).heap[N]? = some zc27) := hnz
        generalize (wr.drewN m1) = W4 at HX4 HK4 HN4 ⊢
        go_wp2_with fail
        refine (HPp.out _ HX4.out (by omega)).mono ?_
        rintro e w1 ⟨rfl, m2, rfl⟩
        have HX6 : Hid (RX r s p bad 0 (W4.drewN m2)) := Lib.hid (HX4.out.heap rfl)
        have HK6 := Lib.hid (HK4.out.trans (KB.drewN m2))
        have HN6 : Hid ((W4.drewN m2).heap[N]? = some zc27) := HN4
        generalize (W4.drewN m2) = W6 at HX6 HK6 HN6 ⊢
        obtain ⟨d0, d1, d2, d3, g1, g2, g3⟩ := HX6.out.c
        obtain ⟨⟨q0, k0⟩, ⟨q1, k1⟩, ⟨q2, k2⟩, ⟨q3, k3⟩⟩ := zero_cells HN6.out
        rcases hno with ⟨rfl, rfl, hv⟩ | ⟨rfl, hv⟩
        · by_cases hmax : v = 9223372036854775808
          · subst hmax
            go_wp2_with fail
            refine (fail_first r s p bad 21 _ _ HX6.out).mono ?_
            rintro e w9 ⟨rfl, hx9, hk9⟩
            have HX9 := Lib.hid hx9
            have HK9 := Lib.hid (HK6.out.trans hk9)
            have HN9 : Hid (w9.heap[N]? = some zc27) := Lib.hid ((hk9.block N (Array.getElem?_eq_some_iff.1 HN6.out).1 (by have := HRN.out; simp; omega)).trans HN6.out)
            clear hx9 hk9 d0 d1 d2 d3 g1 g2 g3 q0 q1 q2 q3 k0 k1 k2 k3
            obtain ⟨⟨q0, k0⟩, ⟨q1, k1⟩, ⟨q2, k2⟩, ⟨q3, k3⟩⟩ := zero_cells HN9.out
            go_wp2_with fail
            refine bodyPost_ret (v := .agg #[.int .i64 0, .int .i64 0, .string ⟨#[]⟩, .slice none 0 0]) (by simp [results, Tryz.results64, go_sem, q0, q1, q2, q3]) rfl ?_
            show RvP _ _ _ _ _ _ _
            rw [← heq.out, numY_no (by simp)]
            have hNs := HN.out
            exact ⟨⟨_, _, _, _, _, _, rfl⟩, ⟨p, HX9.out.set4 HRN.out _ _ _ _⟩, rfl, HK9.out.set4 (by omega) _ _ _ _⟩
          · have bmax : ((v : Int) == 9223372036854775808) = false := by simp; omega
            go_wp2_with fail
            refine bodyPost_ret (v := .agg #[.int .i64 3, .int .i64 ((v : Int)), .string ⟨#[]⟩, .slice none 0 0]) (by simp [results, Tryz.results64, go_sem, q0, q1, q2, q3, wrap_min]) rfl ?_
            show RvP _ _ _ _ _ _ _
            rw [← heq.out, numY_ok (by first | exact .inl (by omega) | exact .inr ⟨rfl, rfl⟩)]
            have hNs := HN.out
            exact ⟨[.int .i64 3, .int .i64 ((v : Int)), .string ⟨#[]⟩, .slice none 0 0], [], rfl, ⟨by decide, by simp, none, 0, rfl, .inl ⟨rfl, rfl⟩⟩, by simp, HX6.out.set4 HRN.out _ _ _ _, HK6.out.set4 (by omega) _ _ _ _⟩
        · go_wp2_with fail
          refine (fail_first r s p bad 21 _ _ HX6.out).mono ?_
          rintro e w9 ⟨rfl, hx9, hk9⟩
          have HX9 := Lib.hid hx9
          have HK9 := Lib.hid (HK6.out.trans hk9)
          have HN9 : Hid (w9.heap[N]? = some zc27) := Lib.hid ((hk9.block N (Array.getElem?_eq_some_iff.1 HN6.out).1 (by have := HRN.out; simp; omega)).trans HN6.out)
          clear hx9 hk9 d0 d1 d2 d3 g1 g2 g3 q0 q1 q2 q3 k0 k1 k2 k3
          obtain ⟨⟨q0, k0⟩, ⟨q1, k1⟩, ⟨q2, k2⟩, ⟨q3, k3⟩⟩ := zero_cells HN9.out
          go_wp2_with fail
          refine bodyPost_ret (v := .agg #[.int .i64 0, .int .i64 0, .string ⟨#[]⟩, .slice none 0 0]) (by simp [results, Tryz.results64, go_sem, q0, q1, q2, q3]) rfl ?_
          show RvP _ _ _ _ _ _ _
          rw [← heq.out, numY_no (by exact .inl hv)]
          have hNs := HN.out
          exact ⟨⟨_, _, _, _, _, _, rfl⟩, ⟨p, HX9.out.set4 HRN.out _ _ _ _⟩, rfl, HK9.out.set4 (by omega) _ _ _ _⟩
set_option maxHeartbeats 8000000 in
theorem rxnum_neg (r : Nat) (s : ByteArray) (a z : Nat) (bad : Int) (w : World) (h : RX r s a bad 0 w) (ha : a < s.size) (hs : s.size ≤ 1048576) (h45 : pkI s a = 45) (h48 : 49 ≤ pkI s (a + 1) ∧ pkI s (a + 1) ≤ 57) :
    Calls Tryz.prog 64 #[.pointer (some ⟨r, 0, none⟩)] w (RvQ r s bad w (numY true a z (digN s.data.toList (s.size + 2) (a + 1) 0))) := by
  have H := Lib.hid h
  have hrl := h.lt
  have hXB := h.heap (Below.heap_alloc w (.cells #[.int .i64 0, .int .i64 0, .string ⟨#[]⟩, .slice none 0 0] 27) r hrl)
  obtain ⟨c0, c1, c2, c3, f1, f2, f3⟩ := hXB.c
  clear h hXB
  obtain ⟨N, hN⟩ : ∃ N, N = w.heap.size := ⟨_, rfl⟩
  have HRN : Hid (r ≠ N) := Lib.hid (by omega)
  have HRL := Lib.hid hrl
  have HX0 := Lib.hid (H.out.heap (Below.heap_alloc w (.cells #[.int .i64 0, .int .i64 0, .string ⟨#[]⟩, .slice none 0 0] 27) r hrl))
  have HNZ := heap_alloc_new w (.cells #[.int .i64 0, .int .i64 0, .string ⟨#[]⟩, .slice none 0 0] 27)
  rw [← hN] at HNZ
  have HNZ : Hid ((w.alloc (.cells #[.int .i64 0, .int .i64 0, .string ⟨#[]⟩, .slice none 0 0] 27)).heap[N]? = some zc27) := Lib.hid HNZ
  have HKA : Hid (KB r w (w.alloc (.cells #[.int .i64 0, .int .i64 0, .string ⟨#[]⟩, .slice none 0 0] 27))) := Lib.hid ((KB.refl r w).alloc _)
  have HN := Lib.hid hN
  clear hN hrl
  have HPK := Lib.hid (fun (q : Nat) (w' : World) (h : RX r s q bad 0 w') (hq : q ≤ s.size) => peek_any r s q bad 0 w' h hq hs)
  have hsa := s_at45 ha
  have HB45 : Hid ((s[a].toNat : Int) = 45) := Lib.hid (by omega)
  have b45 : ((s[a].toNat : Int) == 45) = true := by rw [HB45.out]; rfl
  have n45 : ((s[a].toNat : Int) != 45) = false := by rw [HB45.out]; rfl
  have ha1 : a + 1 < s.size := pkI_lt (by omega) (by omega)
  clear hsa
  have HPa := Lib.hid (HPK.out a)
  have HPb := Lib.hid (HPK.out (a + 1))
  have hb48 : (pkI s (a + 1) == 48) = false := by simp; omega
  have hlo : ¬ pkI s (a + 1) < 48 := by omega
  have hhi : ¬ 57 < pkI s (a + 1) := by omega
  rw [h45] at HPa
  clear h48 h45
  generalize pkI s (a + 1) = first at HPb hb48 hlo hhi
  go_enter Tryz.func64, Tryz.ntmps64
  go_wp2_with fail
  have hN := HN.out
  simp only [← hN]
  clear hN
  generalize (w.alloc (.cells #[.int .i64 0, .int .i64 0, .string ⟨#[]⟩, .slice none 0 0] 27)) = W0 at HX0 HNZ HKA ⊢
  obtain ⟨d0, d1, d2, d3, g1, g2, g3⟩ := HX0.out.c
  clear c0 c1 c2 c3 f1 f2 f3
  go_wp2_with fail
  refine (HPa.out _ HX0.out (by omega)).mono ?_
  rintro e w1 ⟨rfl, m, rfl⟩
  have HX1 : Hid (RX r s a bad 0 (W0.drewN m)) := Lib.hid (HX0.out.heap rfl)
  have HK1 := Lib.hid (HKA.out.trans (KB.drewN m))
  have HN1 : Hid ((W0.drewN m).heap[N]? = some zc27) := HNZ
  generalize (W0.drewN m) = W1 at HX1 HK1 HN1 ⊢
  clear d0 d1 d2 d3 g1 g2 g3
  obtain ⟨d0, d1, d2, d3, g1, g2, g3⟩ := HX1.out.c
  go_wp2_with fail
  have hX2 := HX1.out.to (a + 1)
  have e1 : ((a + 1 : Nat) : Int) = (a : Int) + 1 := by omega
  rw [e1] at hX2
  have HX2 := Lib.hid hX2
  have HK2 := Lib.hid (HK1.out.trans (KB.set 1 (.int .i64 ((a : Int) + 1))))
  have HN2 : Hid ((W1.setCell ⟨r, 1, none⟩ (.int .i64 ((a : Int) + 1))).heap[N]? = some zc27) := Lib.hid ((heap_set_ne _ (fun e => HRN.out e.symm)).trans HN1.out)
  clear hX2 e1
  generalize (W1.setCell ⟨r, 1, none⟩ (.int .i64 ((a : Int) + 1))) = W2 at HX2 HK2 HN2 ⊢
  refine (HPb.out _ HX2.out (by omega)).mono ?_
  rintro e w1 ⟨rfl, m, rfl⟩
  have HX3 : Hid (RX r s (a + 1) bad 0 (W2.drewN m)) := Lib.hid (HX2.out.heap rfl)
  have HK3 := Lib.hid (HK2.out.trans (KB.drewN m))
  have HN3 : Hid ((W2.drewN m).heap[N]? = some zc27) := HN2
  generalize (W2.drewN m) = W3 at HX3 HK3 HN3 ⊢
  clear d0 d1 d2 d3 g1 g2 g3
  obtain ⟨d0, d1, d2, d3, g1, g2, g3⟩ := HX3.out.c
  go_wp2_with fail
  go_loopw [5, 6] (fun nv ov wr => ∃ (k p v : Nat) (n : Int) (o : Bool), nv = .int .u64 n ∧ ov = .bool o ∧ (a + 1) ≤ p ∧ p ≤ s.size ∧ s.size < p + k ∧ Hid (wr.heap[N]? = some zc27) ∧ Hid (KB r w wr) ∧ Hid (RX r s p bad 0 wr) ∧
      Hid (digN s.data.toList k p v = digN s.data.toList (s.size + 2) (a + 1) 0) ∧ ((o = false ∧ n = (v : Int) ∧ v ≤ 9223372036854775808) ∨ (o = true ∧ 9223372036854775808 < v)))
    (fun _ _ wr => rxM s.size r wr)
  case atStart => exact ⟨s.size + 2, (a + 1), 0, 0, false, rfl, rfl, by omega, by omega, by omega, HN3, HK3, HX3, Lib.hid rfl, .inl ⟨rfl, rfl, by omega⟩⟩
  case round =>
    obtain ⟨k, p, v, n, o, rfl, rfl, hbp, hp, hk, hnz, hkb, hrd, heq, hno⟩ := hrel
    obtain ⟨k, rfl⟩ : ∃ j, k = j + 1 := ⟨k - 1, by omega⟩
    rw [show digN s.data.toList (k + 1) p v = _ from digN_pk s k p v] at heq
    have hb0 := pkI_bd s p
    have HLT := Lib.hid (fun h => pkI_lt (s := s) (a := p) hp h)
    have HPp := Lib.hid (HPK.out p)
    clear d0 d1 d2 d3 g1 g2 g3
    generalize pkI s p = pk at heq hb0 HLT HPp
    by_cases hd : 48 ≤ pk ∧ pk ≤ 57
    · rw [if_pos hd] at heq
      obtain ⟨D, hD, hD9⟩ : ∃ D : Nat, pk = 48 + (D : Int) ∧ D ≤ 9 := ⟨(pk - 48).toNat, by omega, by omega⟩
      have hlt : p < s.size := HLT.out (by omega)
      obtain ⟨h4, h5⟩ := hd
      subst hD
      rw [show (48 + (D : Int) - 48).toNat = D from by omega] at heq
      go_wp2_with fail
      refine (HPp.out _ hrd.out (by omega)).mono ?_
      rintro e w1 ⟨rfl, m1, rfl⟩
      have HX4 : Hid (RX r s p bad 0 (wr.drewN m1)) := Lib.hid (hrd.out.heap rfl)
      have HK4 := Lib.hid (hkb.out.trans (KB.drewN m1))
      have HN4 : Hid ((wr.drewN m1).heap[N]? = some zc27) := hnz
      generalize (wr.drewN m1) = W4 at HX4 HK4 HN4 ⊢
      go_wp2_with fail
      refine (HPp.out _ HX4.out (by omega)).mono ?_
      rintro e w1 ⟨rfl, m2, rfl⟩
      have HX5 : Hid (RX r s p bad 0 (W4.drewN m2)) := Lib.hid (HX4.out.heap rfl)
      have HK5 := Lib.hid (HK4.out.trans (KB.drewN m2))
      have HN5 : Hid ((W4.drewN m2).heap[N]? = some zc27) := HN4
      generalize (W4.drewN m2) = W5 at HX5 HK5 HN5 ⊢
      go_wp2_with fail
      refine (HPp.out _ HX5.out (by omega)).mono ?_
      rintro e w1 ⟨rfl, m3, rfl⟩
      have HX6 : Hid (RX r s p bad 0 (W5.drewN m3)) := Lib.hid (HX5.out.heap rfl)
      have HK6 := Lib.hid (HK5.out.trans (KB.drewN m3))
      have HN6 : Hid ((W5.drewN m3).heap[N]? = some zc27) := HN5
      generalize (W5.drewN m3) = W6 at HX6 HK6 HN6 ⊢
      obtain ⟨d0, d1, d2, d3, g1, g2, g3⟩ := HX6.out.c
      have HX7 := Lib.hid (HX6.out.to (p + 1))
      have HK7 := Lib.hid (HK6.out.trans (KB.set 1 (.int .i64 (p + 1 : Nat))))
      have HN7 : Hid ((W6.setCell ⟨r, 1, none⟩ (.int .i64 (p + 1 : Nat))).heap[N]? = some zc27) := Lib.hid ((heap_set_ne _ (fun e => HRN.out e.symm)).trans HN6.out)
      have e1 : ((p + 1 : Nat) : Int) = (p : Int) + 1 := by omega
      rw [e1] at HX7 HK7 HN7
      clear e1
      rcases hno with ⟨rfl, rfl, hv⟩ | ⟨rfl, hv⟩
      · by_cases hov : v * 10 + D ≤ 9223372036854775808
        · have hc : ¬ ((9223372036854775808 - (D : Int)) / 10 < (v : Int)) := by omega
          go_wp2_with fail
          go_roundw
          case rel => exact ⟨k, p + 1, v * 10 + D, _, false, rfl, rfl, by omega, by omega, by omega, HN7, HK7, HX7, heq, .inl ⟨rfl, by omega, hov⟩⟩
          case measure => rw [rxM_ok _ HX7.out, rxM_ok _ hrd.out]; omega
        · have hc : (9223372036854775808 - (D : Int)) / 10 < (v : Int) := by omega
          go_wp2_with fail
          go_roundw
          case rel => exact ⟨k, p + 1, v * 10 + D, _, true, rfl, rfl, by omega, by omega, by omega, HN7, HK7, HX7, heq, .inr ⟨rfl, by omega⟩⟩
          case measure => rw [rxM_ok _ HX7.out, rxM_ok _ hrd.out]; omega
      · by_cases hc : (9223372036854775808 - (D : Int)) / 10 < n
        all_goals
          go_wp2_with fail
          go_roundw
          case rel => exact ⟨k, p + 1, v * 10 + D, _, true, rfl, rfl, by omega, by omega, by omega, HN7, HK7, HX7, heq, .inr ⟨rfl, by omega⟩⟩
          case measure => rw [rxM_ok _ HX7.out, rxM_ok _ hrd.out]; omega
    · rw [if_neg hd] at heq
      have key : ∀ W6 : World, RX r s p bad 0 W6 → KB r w W6 → W6.heap[N]? = some zc27 → True := fun _ _ _ _ => trivial
      have hd2 : pk < 48 ∨ (48 ≤ pk ∧ 57 < pk) := by omega
      clear hd
      rcases hd2 with h4 | ⟨h4, h5⟩
      · go_wp2_with fail
        refine (HPp.out _ hrd.out (by omega)).mono ?_
        rintro e w1 ⟨rfl, m1, rfl⟩
        have HX4 : Hid (RX r s p bad 0 (wr.drewN m1)) := Lib.hid (hrd.out.heap rfl)
        have HK4 := Lib.hid (hkb.out.trans (KB.drewN m1))
        have HN4 : Hid ((wr.drewN m1).heap[N]? = some zc27) := hnz
        generalize (wr.drewN m1) = W4 at HX4 HK4 HN4 ⊢
        have HX6 := HX4
        have HK6 := HK4
        have HN6 := HN4
        obtain ⟨W6, hW6⟩ : ∃ W6, W6 = W4 := ⟨_, rfl⟩
        subst hW6
        obtain ⟨d0, d1, d2, d3, g1, g2, g3⟩ := HX6.out.c
        obtain ⟨⟨q0, k0⟩, ⟨q1, k1⟩, ⟨q2, k2⟩, ⟨q3, k3⟩⟩ := zero_cells HN6.out
        rcases hno with ⟨rfl, rfl, hv⟩ | ⟨rfl, hv⟩
        · by_cases hmax : v = 9223372036854775808
          · subst hmax
            go_wp2_with fail
            refine bodyPost_ret (v := .agg #[.int .i64 3, .int .i64 (-9223372036854775808), .string ⟨#[]⟩, .slice none 0 0]) (by simp [results, Tryz.results64, go_sem, q0, q1, q2, q3, wrap_min]) rfl ?_
            show RvP _ _ _ _ _ _ _
            rw [← heq.out, numY_ok (by first | exact .inl (by omega) | exact .inr ⟨rfl, rfl⟩)]
            have hNs := HN.out
            exact ⟨[.int .i64 3, .int .i64 (-9223372036854775808), .string ⟨#[]⟩, .slice none 0 0], [], rfl, ⟨by decide, by simp, none, 0, rfl, .inl ⟨rfl, rfl⟩⟩, by simp, HX6.out.set4 HRN.out _ _ _ _, HK6.out.set4 (by omega) _ _ _ _⟩
          · have bmax : ((v : Int) == 9223372036854775808) = false := by simp; omega
            go_wp2_with fail
            refine bodyPost_ret (v := .agg #[.int .i64 3, .int .i64 (-(v : Int)), .string ⟨#[]⟩, .slice none 0 0]) (by simp [results, Tryz.results64, go_sem, q0, q1, q2, q3, wrap_min]) rfl ?_
            show RvP _ _ _ _ _ _ _
            rw [← heq.out, numY_ok (by first | exact .inl (by omega) | exact .inr ⟨rfl, rfl⟩)]
            have hNs := HN.out
            exact ⟨[.int .i64 3, .int .i64 (-(v : Int)), .string ⟨#[]⟩, .slice none 0 0], [], rfl, ⟨by decide, by simp, none, 0, rfl, .inl ⟨rfl, rfl⟩⟩, by simp, HX6.out.set4 HRN.out _ _ _ _, HK6.out.set4 (by omega) _ _ _ _⟩
        · go_wp2_with fail
          refine (fail_first r s p bad 21 _ _ HX6.out).mono ?_
          rintro e w9 ⟨rfl, hx9, hk9⟩
          have HX9 := Lib.hid hx9
          have HK9 := Lib.hid (HK6.out.trans hk9)
          have HN9 : Hid (w9.heap[N]? = some zc27) := Lib.hid ((hk9.block N (Array.getElem?_eq_some_iff.1 HN6.out).1 (by have := HRN.out; simp; omega)).trans HN6.out)
          clear hx9 hk9 d0 d1 d2 d3 g1 g2 g3 q0 q1 q2 q3 k0 k1 k2 k3
          obtain ⟨⟨q0, k0⟩, ⟨q1, k1⟩, ⟨q2, k2⟩, ⟨q3, k3⟩⟩ := zero_cells HN9.out
          go_wp2_with fail
          refine bodyPost_ret (v := .agg #[.int .i64 0, .int .i64 0, .string ⟨#[]⟩, .slice none 0 0]) (by simp [results, Tryz.results64, go_sem, q0, q1, q2, q3]) rfl ?_
          show RvP _ _ _ _ _ _ _
          rw [← heq.out, numY_no (by exact .inl hv)]
          have hNs := HN.out
          exact ⟨⟨_, _, _, _, _, _, rfl⟩, ⟨p, HX9.out.set4 HRN.out _ _ _ _⟩, rfl, HK9.out.set4 (by omega) _ _ _ _⟩
      · go_wp2_with fail
        refine (HPp.out _ hrd.out (by omega)).mono ?_
        rintro e w1 ⟨rfl, m1, rfl⟩
        have HX4 : Hid (RX r s p bad 0 (wr.drewN m1)) := Lib.hid (hrd.out.heap rfl)
        have HK4 := Lib.hid (hkb.out.trans (KB.drewN m1))
        have HN4 : Hid ((wr.drewN m1).heap[N]? = some zc27) := hnz
        generalize (wr.drewN m1) = W4 at HX4 HK4 HN4 ⊢
        go_wp2_with fail
        refine (HPp.out _ HX4.out (by omega)).mono ?_
        rintro e w1 ⟨rfl, m2, rfl⟩
        have HX6 : Hid (RX r s p bad 0 (W4.drewN m2)) := Lib.hid (HX4.out.heap rfl)
        have HK6 := Lib.hid (HK4.out.trans (KB.drewN m2))
        have HN6 : Hid ((W4.drewN m2).heap[N]? = some zc27) := HN4
        generalize (W4.drewN m2) = W6 at HX6 HK6 HN6 ⊢
        obtain ⟨d0, d1, d2, d3, g1, g2, g3⟩ := HX6.out.c
        obtain ⟨⟨q0, k0⟩, ⟨q1, k1⟩, ⟨q2, k2⟩, ⟨q3, k3⟩⟩ := zero_cells HN6.out
        rcases hno with ⟨rfl, rfl, hv⟩ | ⟨rfl, hv⟩
        · by_cases hmax : v = 9223372036854775808
          · subst hmax
            go_wp2_with fail
            refine bodyPost_ret (v := .agg #[.int .i64 3, .int .i64 (-9223372036854775808), .string ⟨#[]⟩, .slice none 0 0]) (by simp [results, Tryz.results64, go_sem, q0, q1, q2, q3, wrap_min]) rfl ?_
            show RvP _ _ _ _ _ _ _
            rw [← heq.out, numY_ok (by first | exact .inl (by omega) | exact .inr ⟨rfl, rfl⟩)]
            have hNs := HN.out
            exact ⟨[.int .i64 3, .int .i64 (-9223372036854775808), .string ⟨#[]⟩, .slice none 0 0], [], rfl, ⟨by decide, by simp, none, 0, rfl, .inl ⟨rfl, rfl⟩⟩, by simp, HX6.out.set4 HRN.out _ _ _ _, HK6.out.set4 (by omega) _ _ _ _⟩
          · have bmax : ((v : Int) == 9223372036854775808) = false := by simp; omega
            go_wp2_with fail
            refine bodyPost_ret (v := .agg #[.int .i64 3, .int .i64 (-(v : Int)), .string ⟨#[]⟩, .slice none 0 0]) (by simp [results, Tryz.results64, go_sem, q0, q1, q2, q3, wrap_min]) rfl ?_
            show RvP _ _ _ _ _ _ _
            rw [← heq.out, numY_ok (by first | exact .inl (by omega) | exact .inr ⟨rfl, rfl⟩)]
            have hNs := HN.out
            exact ⟨[.int .i64 3, .int .i64 (-(v : Int)), .string ⟨#[]⟩, .slice none 0 0], [], rfl, ⟨by decide, by simp, none, 0, rfl, .inl ⟨rfl, rfl⟩⟩, by simp, HX6.out.set4 HRN.out _ _ _ _, HK6.out.set4 (by omega) _ _ _ _⟩
        · go_wp2_with fail
          refine (fail_first r s p bad 21 _ _ HX6.out).mono ?_
          rintro e w9 ⟨rfl, hx9, hk9⟩
          have HX9 := Lib.hid hx9
          have HK9 := Lib.hid (HK6.out.trans hk9)
          have HN9 : Hid (w9.heap[N]? = some zc27) := Lib.hid ((hk9.block N (Array.getElem?_eq_some_iff.1 HN6.out).1 (by have := HRN.out; simp; omega)).trans HN6.out)
          clear hx9 hk9 d0 d1 d2 d3 g1 g2 g3 q0 q1 q2 q3 k0 k1 k2 k3
          obtain ⟨⟨q0, k0⟩, ⟨q1, k1⟩, ⟨q2, k2⟩, ⟨q3, k3⟩⟩ := zero_cells HN9.out
          go_wp2_with fail
          refine bodyPost_ret (v := .agg #[.int .i64 0, .int .i64 0, .string ⟨#[]⟩, .slice none 0 0]) (by simp [results, Tryz.results64, go_sem, q0, q1, q2, q3]) rfl ?_
          show RvP _ _ _ _ _ _ _
          rw [← heq.out, numY_no (by exact .inl hv)]
          have hNs := HN.out
          exact ⟨⟨_, _, _, _, _, _, rfl⟩, ⟨p, HX9.out.set4 HRN.out _ _ _ _⟩, rfl, HK9.out.set4 (by omega) _ _ _ _⟩
end

section
open Go.RowKit
set_option maxRecDepth 100000
set_option maxHeartbeats 4000000 in
theorem rxnum_b1 (r : Nat) (s : ByteArray) (a : Nat) (bad : Int) (w : World) (h : RX r s a bad 0 w) (ha : a ≤ s.size) (hs : s.size ≤ 1048576) (h1 : pkI s a < 48) (h2 : pkI s a ≠ 45) :
    Calls Tryz.prog 64 #[.pointer (some ⟨r, 0, none⟩)] w (RvQ r s bad w (.error (a, 5))) := by
  have H := Lib.hid h
  have hrl := h.lt
  have hXB := h.heap (Below.heap_alloc w (.cells #[.int .i64 0, .int .i64 0, .string ⟨#[]⟩, .slice none 0 0] 27) r hrl)
  obtain ⟨c0, c1, c2, c3, f1, f2, f3⟩ := hXB.c
  clear h hXB
  obtain ⟨N, hN⟩ : ∃ N, N = w.heap.size := ⟨_, rfl⟩
  have HRN : Hid (r ≠ N) := Lib.hid (by omega)
  have HRL := Lib.hid hrl
  have HX0 := Lib.hid (H.out.heap (Below.heap_alloc w (.cells #[.int .i64 0, .int .i64 0, .string ⟨#[]⟩, .slice none 0 0] 27) r hrl))
  have HNZ := heap_alloc_new w (.cells #[.int .i64 0, .int .i64 0, .string ⟨#[]⟩, .slice none 0 0] 27)
  rw [← hN] at HNZ
  have HNZ : Hid ((w.alloc (.cells #[.int .i64 0, .int .i64 0, .string ⟨#[]⟩, .slice none 0 0] 27)).heap[N]? = some zc27) := Lib.hid HNZ
  have HKA : Hid (KB r w (w.alloc (.cells #[.int .i64 0, .int .i64 0, .string ⟨#[]⟩, .slice none 0 0] 27))) := Lib.hid ((KB.refl r w).alloc _)
  have HN := Lib.hid hN
  clear hN hrl
  have HPK := Lib.hid (fun (q : Nat) (w' : World) (h : RX r s q bad 0 w') (hq : q ≤ s.size) => peek_any r s q bad 0 w' h hq hs)
  have HPa := Lib.hid (HPK.out a)
  have HPb := Lib.hid (HPK.out a)
  have p45 : (pkI s a == 45) = false := by simp; omega
  clear h2
  generalize pkI s a = c at HPa HPb h1 p45
  go_enter Tryz.func64, Tryz.ntmps64
  go_wp2_with fail
  have hN := HN.out
  simp only [← hN]
  clear hN
  generalize (w.alloc (.cells #[.int .i64 0, .int .i64 0, .string ⟨#[]⟩, .slice none 0 0] 27)) = W0 at HX0 HNZ HKA ⊢
  obtain ⟨d0, d1, d2, d3, g1, g2, g3⟩ := HX0.out.c
  clear c0 c1 c2 c3 f1 f2 f3
  go_wp2_with fail
  refine (HPa.out _ HX0.out (by omega)).mono ?_
  rintro e w1 ⟨rfl, m, rfl⟩
  have HX1 : Hid (RX r s a bad 0 (W0.drewN m)) := Lib.hid (HX0.out.heap rfl)
  have HK1 := Lib.hid (HKA.out.trans (KB.drewN m))
  have HN1 : Hid ((W0.drewN m).heap[N]? = some zc27) := HNZ
  generalize (W0.drewN m) = W1 at HX1 HK1 HN1 ⊢
  clear d0 d1 d2 d3 g1 g2 g3
  obtain ⟨d0, d1, d2, d3, g1, g2, g3⟩ := HX1.out.c
  go_wp2_with fail
  have HX2 := HX1
  have HK2 := HK1
  have HN2 := HN1
  refine (HPb.out _ HX2.out (by omega)).mono ?_
  rintro e w1 ⟨rfl, m, rfl⟩
  have HX3 : Hid (RX r s a bad 0 (W1.drewN m)) := Lib.hid (HX2.out.heap rfl)
  have HK3 := Lib.hid (HK2.out.trans (KB.drewN m))
  have HN3 : Hid ((W1.drewN m).heap[N]? = some zc27) := HN2
  generalize (W1.drewN m) = W3 at HX3 HK3 HN3 ⊢
  clear d0 d1 d2 d3 g1 g2 g3
  obtain ⟨d0, d1, d2, d3, g1, g2, g3⟩ := HX3.out.c
  go_wp2_with fail
  refine (fail_first r s a bad 5 _ _ HX3.out).mono ?_
  rintro e w9 ⟨rfl, hx9, hk9⟩
  have HX9 := Lib.hid hx9
  have HK9 := Lib.hid (HK3.out.trans hk9)
  have HN9 : Hid (w9.heap[N]? = some zc27) := Lib.hid ((hk9.block N (Array.getElem?_eq_some_iff.1 HN3.out).1 (by have := HRN.out; simp; omega)).trans HN3.out)
  clear hx9 hk9 d0 d1 d2 d3 g1 g2 g3
  obtain ⟨⟨q0, k0⟩, ⟨q1, k1⟩, ⟨q2, k2⟩, ⟨q3, k3⟩⟩ := zero_cells HN9.out
  go_wp2_with fail
  refine bodyPost_ret (v := .agg #[.int .i64 0, .int .i64 0, .string ⟨#[]⟩, .slice none 0 0]) (by simp [results, Tryz.results64, go_sem, q0, q1, q2, q3]) rfl ?_
  show RvP _ _ _ _ _ _ _
  have hNs := HN.out
  exact ⟨⟨_, _, _, _, _, _, rfl⟩, ⟨a, HX9.out.set4 HRN.out _ _ _ _⟩, rfl, HK9.out.set4 (by omega) _ _ _ _⟩
set_option maxHeartbeats 4000000 in
theorem rxnum_b2 (r : Nat) (s : ByteArray) (a : Nat) (bad : Int) (w : World) (h : RX r s a bad 0 w) (ha : a ≤ s.size) (hs : s.size ≤ 1048576) (h1 : 57 < pkI s a) :
    Calls Tryz.prog 64 #[.pointer (some ⟨r, 0, none⟩)] w (RvQ r s bad w (.error (a, 5))) := by
  have H := Lib.hid h
  have hrl := h.lt
  have hXB := h.heap (Below.heap_alloc w (.cells #[.int .i64 0, .int .i64 0, .string ⟨#[]⟩, .slice none 0 0] 27) r hrl)
  obtain ⟨c0, c1, c2, c3, f1, f2, f3⟩ := hXB.c
  clear h hXB
  obtain ⟨N, hN⟩ : ∃ N, N = w.heap.size := ⟨_, rfl⟩
  have HRN : Hid (r ≠ N) := Lib.hid (by omega)
  have HRL := Lib.hid hrl
  have HX0 := Lib.hid (H.out.heap (Below.heap_alloc w (.cells #[.int .i64 0, .int .i64 0, .string ⟨#[]⟩, .slice none 0 0] 27) r hrl))
  have HNZ := heap_alloc_new w (.cells #[.int .i64 0, .int .i64 0, .string ⟨#[]⟩, .slice none 0 0] 27)
  rw [← hN] at HNZ
  have HNZ : Hid ((w.alloc (.cells #[.int .i64 0, .int .i64 0, .string ⟨#[]⟩, .slice none 0 0] 27)).heap[N]? = some zc27) := Lib.hid HNZ
  have HKA : Hid (KB r w (w.alloc (.cells #[.int .i64 0, .int .i64 0, .string ⟨#[]⟩, .slice none 0 0] 27))) := Lib.hid ((KB.refl r w).alloc _)
  have HN := Lib.hid hN
  clear hN hrl
  have HPK := Lib.hid (fun (q : Nat) (w' : World) (h : RX r s q bad 0 w') (hq : q ≤ s.size) => peek_any r s q bad 0 w' h hq hs)
  have HPa := Lib.hid (HPK.out a)
  have HPb := Lib.hid (HPK.out a)
  have p45 : (pkI s a == 45) = false := by simp; omega
  have h3 : ¬ pkI s a < 48 := by omega
  generalize pkI s a = c at HPa HPb h1 h3 p45
  go_enter Tryz.func64, Tryz.ntmps64
  go_wp2_with fail
  have hN := HN.out
  simp only [← hN]
  clear hN
  generalize (w.alloc (.cells #[.int .i64 0, .int .i64 0, .string ⟨#[]⟩, .slice none 0 0] 27)) = W0 at HX0 HNZ HKA ⊢
  obtain ⟨d0, d1, d2, d3, g1, g2, g3⟩ := HX0.out.c
  clear c0 c1 c2 c3 f1 f2 f3
  go_wp2_with fail
  refine (HPa.out _ HX0.out (by omega)).mono ?_
  rintro e w1 ⟨rfl, m, rfl⟩
  have HX1 : Hid (RX r s a bad 0 (W0.drewN m)) := Lib.hid (HX0.out.heap rfl)
  have HK1 := Lib.hid (HKA.out.trans (KB.drewN m))
  have HN1 : Hid ((W0.drewN m).heap[N]? = some zc27) := HNZ
  generalize (W0.drewN m) = W1 at HX1 HK1 HN1 ⊢
  clear d0 d1 d2 d3 g1 g2 g3
  obtain ⟨d0, d1, d2, d3, g1, g2, g3⟩ := HX1.out.c
  go_wp2_with fail
  have HX2 := HX1
  have HK2 := HK1
  have HN2 := HN1
  refine (HPb.out _ HX2.out (by omega)).mono ?_
  rintro e w1 ⟨rfl, m, rfl⟩
  have HX3 : Hid (RX r s a bad 0 (W1.drewN m)) := Lib.hid (HX2.out.heap rfl)
  have HK3 := Lib.hid (HK2.out.trans (KB.drewN m))
  have HN3 : Hid ((W1.drewN m).heap[N]? = some zc27) := HN2
  generalize (W1.drewN m) = W3 at HX3 HK3 HN3 ⊢
  clear d0 d1 d2 d3 g1 g2 g3
  obtain ⟨d0, d1, d2, d3, g1, g2, g3⟩ := HX3.out.c
  go_wp2_with fail
  refine (fail_first r s a bad 5 _ _ HX3.out).mono ?_
  rintro e w9 ⟨rfl, hx9, hk9⟩
  have HX9 := Lib.hid hx9
  have HK9 := Lib.hid (HK3.out.trans hk9)
  have HN9 : Hid (w9.heap[N]? = some zc27) := Lib.hid ((hk9.block N (Array.getElem?_eq_some_iff.1 HN3.out).1 (by have := HRN.out; simp; omega)).trans HN3.out)
  clear hx9 hk9 d0 d1 d2 d3 g1 g2 g3
  obtain ⟨⟨q0, k0⟩, ⟨q1, k1⟩, ⟨q2, k2⟩, ⟨q3, k3⟩⟩ := zero_cells HN9.out
  go_wp2_with fail
  refine bodyPost_ret (v := .agg #[.int .i64 0, .int .i64 0, .string ⟨#[]⟩, .slice none 0 0]) (by simp [results, Tryz.results64, go_sem, q0, q1, q2, q3]) rfl ?_
  show RvP _ _ _ _ _ _ _
  have hNs := HN.out
  exact ⟨⟨_, _, _, _, _, _, rfl⟩, ⟨a, HX9.out.set4 HRN.out _ _ _ _⟩, rfl, HK9.out.set4 (by omega) _ _ _ _⟩
set_option maxHeartbeats 4000000 in
theorem rxnum_b3 (r : Nat) (s : ByteArray) (a : Nat) (bad : Int) (w : World) (h : RX r s a bad 0 w) (ha : a ≤ s.size) (hs : s.size ≤ 1048576) (h45 : pkI s a = 45) (h1 : pkI s (a + 1) < 48) :
    Calls Tryz.prog 64 #[.pointer (some ⟨r, 0, none⟩)] w (RvQ r s bad w (.error (a + 1, 5))) := by
  have H := Lib.hid h
  have hrl := h.lt
  have hXB := h.heap (Below.heap_alloc w (.cells #[.int .i64 0, .int .i64 0, .string ⟨#[]⟩, .slice none 0 0] 27) r hrl)
  obtain ⟨c0, c1, c2, c3, f1, f2, f3⟩ := hXB.c
  clear h hXB
  obtain ⟨N, hN⟩ : ∃ N, N = w.heap.size := ⟨_, rfl⟩
  have HRN : Hid (r ≠ N) := Lib.hid (by omega)
  have HRL := Lib.hid hrl
  have HX0 := Lib.hid (H.out.heap (Below.heap_alloc w (.cells #[.int .i64 0, .int .i64 0, .string ⟨#[]⟩, .slice none 0 0] 27) r hrl))
  have HNZ := heap_alloc_new w (.cells #[.int .i64 0, .int .i64 0, .string ⟨#[]⟩, .slice none 0 0] 27)
  rw [← hN] at HNZ
  have HNZ : Hid ((w.alloc (.cells #[.int .i64 0, .int .i64 0, .string ⟨#[]⟩, .slice none 0 0] 27)).heap[N]? = some zc27) := Lib.hid HNZ
  have HKA : Hid (KB r w (w.alloc (.cells #[.int .i64 0, .int .i64 0, .string ⟨#[]⟩, .slice none 0 0] 27))) := Lib.hid ((KB.refl r w).alloc _)
  have HN := Lib.hid hN
  clear hN hrl
  have HPK := Lib.hid (fun (q : Nat) (w' : World) (h : RX r s q bad 0 w') (hq : q ≤ s.size) => peek_any r s q bad 0 w' h hq hs)
  have HPa := Lib.hid (HPK.out a)
  have HPb := Lib.hid (HPK.out (a + 1))
  rw [h45] at HPa
  have ha1 : a + 1 ≤ s.size := by have := pkI_lt ha (by rw [h45]; decide); omega
  clear h45
  generalize pkI s (a + 1) = d at HPb h1
  go_enter Tryz.func64, Tryz.ntmps64
  go_wp2_with fail
  have hN := HN.out
  simp only [← hN]
  clear hN
  generalize (w.alloc (.cells #[.int .i64 0, .int .i64 0, .string ⟨#[]⟩, .slice none 0 0] 27)) = W0 at HX0 HNZ HKA ⊢
  obtain ⟨d0, d1, d2, d3, g1, g2, g3⟩ := HX0.out.c
  clear c0 c1 c2 c3 f1 f2 f3
  go_wp2_with fail
  refine (HPa.out _ HX0.out (by omega)).mono ?_
  rintro e w1 ⟨rfl, m, rfl⟩
  have HX1 : Hid (RX r s a bad 0 (W0.drewN m)) := Lib.hid (HX0.out.heap rfl)
  have HK1 := Lib.hid (HKA.out.trans (KB.drewN m))
  have HN1 : Hid ((W0.drewN m).heap[N]? = some zc27) := HNZ
  generalize (W0.drewN m) = W1 at HX1 HK1 HN1 ⊢
  clear d0 d1 d2 d3 g1 g2 g3
  obtain ⟨d0, d1, d2, d3, g1, g2, g3⟩ := HX1.out.c
  go_wp2_with fail
  have hX2 := HX1.out.to (a + 1)
  have e1 : ((a + 1 : Nat) : Int) = (a : Int) + 1 := by omega
  rw [e1] at hX2
  have HX2 := Lib.hid hX2
  have HK2 := Lib.hid (HK1.out.trans (KB.set 1 (.int .i64 ((a : Int) + 1))))
  have HN2 : Hid ((W1.setCell ⟨r, 1, none⟩ (.int .i64 ((a : Int) + 1))).heap[N]? = some zc27) := Lib.hid ((heap_set_ne _ (fun e => HRN.out e.symm)).trans HN1.out)
  clear hX2 e1
  generalize (W1.setCell ⟨r, 1, none⟩ (.int .i64 ((a : Int) + 1))) = W2 at HX2 HK2 HN2 ⊢
  refine (HPb.out _ HX2.out (by omega)).mono ?_
  rintro e w1 ⟨rfl, m, rfl⟩
  have HX3 : Hid (RX r s (a + 1) bad 0 (W2.drewN m)) := Lib.hid (HX2.out.heap rfl)
  have HK3 := Lib.hid (HK2.out.trans (KB.drewN m))
  have HN3 : Hid ((W2.drewN m).heap[N]? = some zc27) := HN2
  generalize (W2.drewN m) = W3 at HX3 HK3 HN3 ⊢
  clear d0 d1 d2 d3 g1 g2 g3
  obtain ⟨d0, d1, d2, d3, g1, g2, g3⟩ := HX3.out.c
  rw [show ((a + 1 : Nat) : Int) = (a : Int) + 1 from by omega] at d1
  go_wp2_with fail
  refine (fail_first r s (a + 1) bad 5 _ _ HX3.out).mono ?_
  rintro e w9 ⟨rfl, hx9, hk9⟩
  have HX9 := Lib.hid hx9
  have HK9 := Lib.hid (HK3.out.trans hk9)
  have HN9 : Hid (w9.heap[N]? = some zc27) := Lib.hid ((hk9.block N (Array.getElem?_eq_some_iff.1 HN3.out).1 (by have := HRN.out; simp; omega)).trans HN3.out)
  clear hx9 hk9 d0 d1 d2 d3 g1 g2 g3
  obtain ⟨⟨q0, k0⟩, ⟨q1, k1⟩, ⟨q2, k2⟩, ⟨q3, k3⟩⟩ := zero_cells HN9.out
  go_wp2_with fail
  refine bodyPost_ret (v := .agg #[.int .i64 0, .int .i64 0, .string ⟨#[]⟩, .slice none 0 0]) (by simp [results, Tryz.results64, go_sem, q0, q1, q2, q3]) rfl ?_
  show RvP _ _ _ _ _ _ _
  have hNs := HN.out
  exact ⟨⟨_, _, _, _, _, _, rfl⟩, ⟨(a + 1), HX9.out.set4 HRN.out _ _ _ _⟩, rfl, HK9.out.set4 (by omega) _ _ _ _⟩
set_option maxHeartbeats 4000000 in
theorem rxnum_b4 (r : Nat) (s : ByteArray) (a : Nat) (bad : Int) (w : World) (h : RX r s a bad 0 w) (ha : a ≤ s.size) (hs : s.size ≤ 1048576) (h45 : pkI s a = 45) (h1 : 57 < pkI s (a + 1)) :
    Calls Tryz.prog 64 #[.pointer (some ⟨r, 0, none⟩)] w (RvQ r s bad w (.error (a + 1, 5))) := by
  have H := Lib.hid h
  have hrl := h.lt
  have hXB := h.heap (Below.heap_alloc w (.cells #[.int .i64 0, .int .i64 0, .string ⟨#[]⟩, .slice none 0 0] 27) r hrl)
  obtain ⟨c0, c1, c2, c3, f1, f2, f3⟩ := hXB.c
  clear h hXB
  obtain ⟨N, hN⟩ : ∃ N, N = w.heap.size := ⟨_, rfl⟩
  have HRN : Hid (r ≠ N) := Lib.hid (by omega)
  have HRL := Lib.hid hrl
  have HX0 := Lib.hid (H.out.heap (Below.heap_alloc w (.cells #[.int .i64 0, .int .i64 0, .string ⟨#[]⟩, .slice none 0 0] 27) r hrl))
  have HNZ := heap_alloc_new w (.cells #[.int .i64 0, .int .i64 0, .string ⟨#[]⟩, .slice none 0 0] 27)
  rw [← hN] at HNZ
  have HNZ : Hid ((w.alloc (.cells #[.int .i64 0, .int .i64 0, .string ⟨#[]⟩, .slice none 0 0] 27)).heap[N]? = some zc27) := Lib.hid HNZ
  have HKA : Hid (KB r w (w.alloc (.cells #[.int .i64 0, .int .i64 0, .string ⟨#[]⟩, .slice none 0 0] 27))) := Lib.hid ((KB.refl r w).alloc _)
  have HN := Lib.hid hN
  clear hN hrl
  have HPK := Lib.hid (fun (q : Nat) (w' : World) (h : RX r s q bad 0 w') (hq : q ≤ s.size) => peek_any r s q bad 0 w' h hq hs)
  have HPa := Lib.hid (HPK.out a)
  have HPb := Lib.hid (HPK.out (a + 1))
  have h3 : ¬ pkI s (a + 1) < 48 := by omega
  rw [h45] at HPa
  have ha1 : a + 1 ≤ s.size := by have := pkI_lt ha (by rw [h45]; decide); omega
  clear h45
  generalize pkI s (a + 1) = d at HPb h1 h3
  go_enter Tryz.func64, Tryz.ntmps64
  go_wp2_with fail
  have hN := HN.out
  simp only [← hN]
  clear hN
  generalize (w.alloc (.cells #[.int .i64 0, .int .i64 0, .string ⟨#[]⟩, .slice none 0 0] 27)) = W0 at HX0 HNZ HKA ⊢
  obtain ⟨d0, d1, d2, d3, g1, g2, g3⟩ := HX0.out.c
  clear c0 c1 c2 c3 f1 f2 f3
  go_wp2_with fail
  refine (HPa.out _ HX0.out (by omega)).mono ?_
  rintro e w1 ⟨rfl, m, rfl⟩
  have HX1 : Hid (RX r s a bad 0 (W0.drewN m)) := Lib.hid (HX0.out.heap rfl)
  have HK1 := Lib.hid (HKA.out.trans (KB.drewN m))
  have HN1 : Hid ((W0.drewN m).heap[N]? = some zc27) := HNZ
  generalize (W0.drewN m) = W1 at HX1 HK1 HN1 ⊢
  clear d0 d1 d2 d3 g1 g2 g3
  obtain ⟨d0, d1, d2, d3, g1, g2, g3⟩ := HX1.out.c
  go_wp2_with fail
  have hX2 := HX1.out.to (a + 1)
  have e1 : ((a + 1 : Nat) : Int) = (a : Int) + 1 := by omega
  rw [e1] at hX2
  have HX2 := Lib.hid hX2
  have HK2 := Lib.hid (HK1.out.trans (KB.set 1 (.int .i64 ((a : Int) + 1))))
  have HN2 : Hid ((W1.setCell ⟨r, 1, none⟩ (.int .i64 ((a : Int) + 1))).heap[N]? = some zc27) := Lib.hid ((heap_set_ne _ (fun e => HRN.out e.symm)).trans HN1.out)
  clear hX2 e1
  generalize (W1.setCell ⟨r, 1, none⟩ (.int .i64 ((a : Int) + 1))) = W2 at HX2 HK2 HN2 ⊢
  refine (HPb.out _ HX2.out (by omega)).mono ?_
  rintro e w1 ⟨rfl, m, rfl⟩
  have HX3 : Hid (RX r s (a + 1) bad 0 (W2.drewN m)) := Lib.hid (HX2.out.heap rfl)
  have HK3 := Lib.hid (HK2.out.trans (KB.drewN m))
  have HN3 : Hid ((W2.drewN m).heap[N]? = some zc27) := HN2
  generalize (W2.drewN m) = W3 at HX3 HK3 HN3 ⊢
  clear d0 d1 d2 d3 g1 g2 g3
  obtain ⟨d0, d1, d2, d3, g1, g2, g3⟩ := HX3.out.c
  rw [show ((a + 1 : Nat) : Int) = (a : Int) + 1 from by omega] at d1
  go_wp2_with fail
  refine (fail_first r s (a + 1) bad 5 _ _ HX3.out).mono ?_
  rintro e w9 ⟨rfl, hx9, hk9⟩
  have HX9 := Lib.hid hx9
  have HK9 := Lib.hid (HK3.out.trans hk9)
  have HN9 : Hid (w9.heap[N]? = some zc27) := Lib.hid ((hk9.block N (Array.getElem?_eq_some_iff.1 HN3.out).1 (by have := HRN.out; simp; omega)).trans HN3.out)
  clear hx9 hk9 d0 d1 d2 d3 g1 g2 g3
  obtain ⟨⟨q0, k0⟩, ⟨q1, k1⟩, ⟨q2, k2⟩, ⟨q3, k3⟩⟩ := zero_cells HN9.out
  go_wp2_with fail
  refine bodyPost_ret (v := .agg #[.int .i64 0, .int .i64 0, .string ⟨#[]⟩, .slice none 0 0]) (by simp [results, Tryz.results64, go_sem, q0, q1, q2, q3]) rfl ?_
  show RvP _ _ _ _ _ _ _
  have hNs := HN.out
  exact ⟨⟨_, _, _, _, _, _, rfl⟩, ⟨(a + 1), HX9.out.set4 HRN.out _ _ _ _⟩, rfl, HK9.out.set4 (by omega) _ _ _ _⟩
set_option maxHeartbeats 4000000 in
theorem rxnum_b5 (r : Nat) (s : ByteArray) (a : Nat) (bad : Int) (w : World) (h : RX r s a bad 0 w) (ha : a ≤ s.size) (hs : s.size ≤ 1048576) (h45 : pkI s a = 45) (h1 : pkI s (a + 1) = 48) :
    Calls Tryz.prog 64 #[.pointer (some ⟨r, 0, none⟩)] w (RvQ r s bad w (.error (a + 1, 5))) := by
  have H := Lib.hid h
  have hrl := h.lt
  have hXB := h.heap (Below.heap_alloc w (.cells #[.int .i64 0, .int .i64 0, .string ⟨#[]⟩, .slice none 0 0] 27) r hrl)
  obtain ⟨c0, c1, c2, c3, f1, f2, f3⟩ := hXB.c
  clear h hXB
  obtain ⟨N, hN⟩ : ∃ N, N = w.heap.size := ⟨_, rfl⟩
  have HRN : Hid (r ≠ N) := Lib.hid (by omega)
  have HRL := Lib.hid hrl
  have HX0 := Lib.hid (H.out.heap (Below.heap_alloc w (.cells #[.int .i64 0, .int .i64 0, .string ⟨#[]⟩, .slice none 0 0] 27) r hrl))
  have HNZ := heap_alloc_new w (.cells #[.int .i64 0, .int .i64 0, .string ⟨#[]⟩, .slice none 0 0] 27)
  rw [← hN] at HNZ
  have HNZ : Hid ((w.alloc (.cells #[.int .i64 0, .int .i64 0, .string ⟨#[]⟩, .slice none 0 0] 27)).heap[N]? = some zc27) := Lib.hid HNZ
  have HKA : Hid (KB r w (w.alloc (.cells #[.int .i64 0, .int .i64 0, .string ⟨#[]⟩, .slice none 0 0] 27))) := Lib.hid ((KB.refl r w).alloc _)
  have HN := Lib.hid hN
  clear hN hrl
  have HPK := Lib.hid (fun (q : Nat) (w' : World) (h : RX r s q bad 0 w') (hq : q ≤ s.size) => peek_any r s q bad 0 w' h hq hs)
  have HPa := Lib.hid (HPK.out a)
  have HPb := Lib.hid (HPK.out (a + 1))
  rw [h45] at HPa
  have ha1 : a + 1 ≤ s.size := by have := pkI_lt ha (by rw [h45]; decide); omega
  clear h45
  rw [h1] at HPb
  go_enter Tryz.func64, Tryz.ntmps64
  go_wp2_with fail
  have hN := HN.out
  simp only [← hN]
  clear hN
  generalize (w.alloc (.cells #[.int .i64 0, .int .i64 0, .string ⟨#[]⟩, .slice none 0 0] 27)) = W0 at HX0 HNZ HKA ⊢
  obtain ⟨d0, d1, d2, d3, g1, g2, g3⟩ := HX0.out.c
  clear c0 c1 c2 c3 f1 f2 f3
  go_wp2_with fail
  refine (HPa.out _ HX0.out (by omega)).mono ?_
  rintro e w1 ⟨rfl, m, rfl⟩
  have HX1 : Hid (RX r s a bad 0 (W0.drewN m)) := Lib.hid (HX0.out.heap rfl)
  have HK1 := Lib.hid (HKA.out.trans (KB.drewN m))
  have HN1 : Hid ((W0.drewN m).heap[N]? = some zc27) := HNZ
  generalize (W0.drewN m) = W1 at HX1 HK1 HN1 ⊢
  clear d0 d1 d2 d3 g1 g2 g3
  obtain ⟨d0, d1, d2, d3, g1, g2, g3⟩ := HX1.out.c
  go_wp2_with fail
  have hX2 := HX1.out.to (a + 1)
  have e1 : ((a + 1 : Nat) : Int) = (a : Int) + 1 := by omega
  rw [e1] at hX2
  have HX2 := Lib.hid hX2
  have HK2 := Lib.hid (HK1.out.trans (KB.set 1 (.int .i64 ((a : Int) + 1))))
  have HN2 : Hid ((W1.setCell ⟨r, 1, none⟩ (.int .i64 ((a : Int) + 1))).heap[N]? = some zc27) := Lib.hid ((heap_set_ne _ (fun e => HRN.out e.symm)).trans HN1.out)
  clear hX2 e1
  generalize (W1.setCell ⟨r, 1, none⟩ (.int .i64 ((a : Int) + 1))) = W2 at HX2 HK2 HN2 ⊢
  refine (HPb.out _ HX2.out (by omega)).mono ?_
  rintro e w1 ⟨rfl, m, rfl⟩
  have HX3 : Hid (RX r s (a + 1) bad 0 (W2.drewN m)) := Lib.hid (HX2.out.heap rfl)
  have HK3 := Lib.hid (HK2.out.trans (KB.drewN m))
  have HN3 : Hid ((W2.drewN m).heap[N]? = some zc27) := HN2
  generalize (W2.drewN m) = W3 at HX3 HK3 HN3 ⊢
  clear d0 d1 d2 d3 g1 g2 g3
  obtain ⟨d0, d1, d2, d3, g1, g2, g3⟩ := HX3.out.c
  rw [show ((a + 1 : Nat) : Int) = (a : Int) + 1 from by omega] at d1
  go_wp2_with fail
  refine (fail_first r s (a + 1) bad 5 _ _ HX3.out).mono ?_
  rintro e w9 ⟨rfl, hx9, hk9⟩
  have HX9 := Lib.hid hx9
  have HK9 := Lib.hid (HK3.out.trans hk9)
  have HN9 : Hid (w9.heap[N]? = some zc27) := Lib.hid ((hk9.block N (Array.getElem?_eq_some_iff.1 HN3.out).1 (by have := HRN.out; simp; omega)).trans HN3.out)
  clear hx9 hk9 d0 d1 d2 d3 g1 g2 g3
  obtain ⟨⟨q0, k0⟩, ⟨q1, k1⟩, ⟨q2, k2⟩, ⟨q3, k3⟩⟩ := zero_cells HN9.out
  go_wp2_with fail
  refine bodyPost_ret (v := .agg #[.int .i64 0, .int .i64 0, .string ⟨#[]⟩, .slice none 0 0]) (by simp [results, Tryz.results64, go_sem, q0, q1, q2, q3]) rfl ?_
  show RvP _ _ _ _ _ _ _
  have hNs := HN.out
  exact ⟨⟨_, _, _, _, _, _, rfl⟩, ⟨(a + 1), HX9.out.set4 HRN.out _ _ _ _⟩, rfl, HK9.out.set4 (by omega) _ _ _ _⟩
set_option maxHeartbeats 4000000 in
theorem rxnum_zero (r : Nat) (s : ByteArray) (a : Nat) (bad : Int) (w : World) (h : RX r s a bad 0 w) (ha : a ≤ s.size) (hs : s.size ≤ 1048576) (z : Nat) (h1 : pkI s a = 48) :
    Calls Tryz.prog 64 #[.pointer (some ⟨r, 0, none⟩)] w (RvQ r s bad w (if 48 ≤ pkI s (a + 1) ∧ pkI s (a + 1) ≤ 57 then .error (a + 1, 5) else .ok (.int 0, a + 1, z))) := by
  have H := Lib.hid h
  have hrl := h.lt
  have hXB := h.heap (Below.heap_alloc w (.cells #[.int .i64 0, .int .i64 0, .string ⟨#[]⟩, .slice none 0 0] 27) r hrl)
  obtain ⟨c0, c1, c2, c3, f1, f2, f3⟩ := hXB.c
  clear h hXB
  obtain ⟨N, hN⟩ : ∃ N, N = w.heap.size := ⟨_, rfl⟩
  have HRN : Hid (r ≠ N) := Lib.hid (by omega)
  have HRL := Lib.hid hrl
  have HX0 := Lib.hid (H.out.heap (Below.heap_alloc w (.cells #[.int .i64 0, .int .i64 0, .string ⟨#[]⟩, .slice none 0 0] 27) r hrl))
  have HNZ := heap_alloc_new w (.cells #[.int .i64 0, .int .i64 0, .string ⟨#[]⟩, .slice none 0 0] 27)
  rw [← hN] at HNZ
  have HNZ : Hid ((w.alloc (.cells #[.int .i64 0, .int .i64 0, .string ⟨#[]⟩, .slice none 0 0] 27)).heap[N]? = some zc27) := Lib.hid HNZ
  have HKA : Hid (KB r w (w.alloc (.cells #[.int .i64 0, .int .i64 0, .string ⟨#[]⟩, .slice none 0 0] 27))) := Lib.hid ((KB.refl r w).alloc _)
  have HN := Lib.hid hN
  clear hN hrl
  have HPK := Lib.hid (fun (q : Nat) (w' : World) (h : RX r s q bad 0 w') (hq : q ≤ s.size) => peek_any r s q bad 0 w' h hq hs)
  have HPa := Lib.hid (HPK.out a)
  have HPb := Lib.hid (HPK.out a)
  have hlt : a < s.size := pkI_lt ha (by omega)
  have hsa := s_at45 hlt
  have b45 : ((s[a].toNat : Int) == 45) = false := by simp; omega
  clear hsa
  rw [h1] at HPa HPb
  obtain ⟨T, hT⟩ : ∃ T : RR, T = if 48 ≤ pkI s (a + 1) ∧ pkI s (a + 1) ≤ 57 then .error (a + 1, 5) else .ok (.int 0, a + 1, z) := ⟨_, rfl⟩
  rw [← hT]
  have HT := Lib.hid hT
  clear hT
  go_enter Tryz.func64, Tryz.ntmps64
  go_wp2_with fail
  have hN := HN.out
  simp only [← hN]
  clear hN
  generalize (w.alloc (.cells #[.int .i64 0, .int .i64 0, .string ⟨#[]⟩, .slice none 0 0] 27)) = W0 at HX0 HNZ HKA ⊢
  obtain ⟨d0, d1, d2, d3, g1, g2, g3⟩ := HX0.out.c
  clear c0 c1 c2 c3 f1 f2 f3
  go_wp2_with fail
  refine (HPa.out _ HX0.out (by omega)).mono ?_
  rintro e w1 ⟨rfl, m, rfl⟩
  have HX1 : Hid (RX r s a bad 0 (W0.drewN m)) := Lib.hid (HX0.out.heap rfl)
  have HK1 := Lib.hid (HKA.out.trans (KB.drewN m))
  have HN1 : Hid ((W0.drewN m).heap[N]? = some zc27) := HNZ
  generalize (W0.drewN m) = W1 at HX1 HK1 HN1 ⊢
  clear d0 d1 d2 d3 g1 g2 g3
  obtain ⟨d0, d1, d2, d3, g1, g2, g3⟩ := HX1.out.c
  go_wp2_with fail
  have HX2 := HX1
  have HK2 := HK1
  have HN2 := HN1
  refine (HPb.out _ HX2.out (by omega)).mono ?_
  rintro e w1 ⟨rfl, m, rfl⟩
  have HX3 : Hid (RX r s a bad 0 (W1.drewN m)) := Lib.hid (HX2.out.heap rfl)
  have HK3 := Lib.hid (HK2.out.trans (KB.drewN m))
  have HN3 : Hid ((W1.drewN m).heap[N]? = some zc27) := HN2
  generalize (W1.drewN m) = W3 at HX3 HK3 HN3 ⊢
  clear d0 d1 d2 d3 g1 g2 g3
  obtain ⟨d0, d1, d2, d3, g1, g2, g3⟩ := HX3.out.c
  go_wp2_with fail
  go_loopw [5, 6] (fun nv ov wr => ∃ (p : Nat), nv = .int .u64 0 ∧ ov = .bool false ∧ (p = a ∨ p = a + 1) ∧ Hid (wr.heap[N]? = some zc27) ∧ Hid (KB r w wr) ∧ Hid (RX r s p bad 0 wr))
    (fun _ _ wr => rxM s.size r wr)
  case atStart => exact ⟨a, rfl, rfl, .inl rfl, HN3, HK3, HX3⟩
  case round =>
    obtain ⟨p, rfl, rfl, hp, hnz, hkb, hrd⟩ := hrel
    clear d0 d1 d2 d3 g1 g2 g3
    rcases hp with rfl | rfl
    · go_wp2_with fail
      refine (HPa.out _ hrd.out (by omega)).mono ?_
      rintro e w1 ⟨rfl, m1, rfl⟩
      have HX4 : Hid (RX r s p bad 0 (wr.drewN m1)) := Lib.hid (hrd.out.heap rfl)
      have HK4 := Lib.hid (hkb.out.trans (KB.drewN m1))
      have HN4 : Hid ((wr.drewN m1).heap[N]? = some zc27) := hnz
      generalize (wr.drewN m1) = W4 at HX4 HK4 HN4 ⊢
      go_wp2_with fail
      refine (HPa.out _ HX4.out (by omega)).mono ?_
      rintro e w1 ⟨rfl, m2, rfl⟩
      have HX5 : Hid (RX r s p bad 0 (W4.drewN m2)) := Lib.hid (HX4.out.heap rfl)
      have HK5 := Lib.hid (HK4.out.trans (KB.drewN m2))
      have HN5 : Hid ((W4.drewN m2).heap[N]? = some zc27) := HN4
      generalize (W4.drewN m2) = W5 at HX5 HK5 HN5 ⊢
      obtain ⟨d0, d1, d2, d3, g1, g2, g3⟩ := HX5.out.c
      go_wp2_with fail
      refine (HPa.out _ HX5.out (by omega)).mono ?_
      rintro e w1 ⟨rfl, m3, rfl⟩
      have HX6 : Hid (RX r s p bad 0 (W5.drewN m3)) := Lib.hid (HX5.out.heap rfl)
      have HK6 := Lib.hid (HK5.out.trans (KB.drewN m3))
      have HN6 : Hid ((W5.drewN m3).heap[N]? = some zc27) := HN5
      generalize (W5.drewN m3) = W6 at HX6 HK6 HN6 ⊢
      clear d0 d1 d2 d3 g1 g2 g3
      obtain ⟨d0, d1, d2, d3, g1, g2, g3⟩ := HX6.out.c
      have HX7 := Lib.hid (HX6.out.to (p + 1))
      have HK7 := Lib.hid (HK6.out.trans (KB.set 1 (.int .i64 (p + 1 : Nat))))
      have HN7 : Hid ((W6.setCell ⟨r, 1, none⟩ (.int .i64 (p + 1 : Nat))).heap[N]? = some zc27) := Lib.hid ((heap_set_ne _ (fun e => HRN.out e.symm)).trans HN6.out)
      have e1 : ((p + 1 : Nat) : Int) = (p : Int) + 1 := by omega
      rw [e1] at HX7 HK7 HN7
      clear e1
      go_wp2_with fail
      go_roundw
      case rel => exact ⟨p + 1, rfl, rfl, .inr rfl, HN7, HK7, HX7⟩
      case measure => rw [rxM_ok _ HX7.out, rxM_ok _ hrd.out]; omega
    · have HP1 := Lib.hid (HPK.out (a + 1))
      by_cases hd : 48 ≤ pkI s (a + 1) ∧ pkI s (a + 1) ≤ 57
      · have HTT := HT.out
        rw [if_pos hd] at HTT
        have HTT := Lib.hid HTT
        obtain ⟨h4, h5⟩ := hd
        clear HT
        generalize pkI s (a + 1) = pk at HP1 h4 h5
        go_wp2_with fail
        refine (HP1.out _ hrd.out (by omega)).mono ?_
        rintro e w1 ⟨rfl, m1, rfl⟩
        have HX4 : Hid (RX r s (a + 1) bad 0 (wr.drewN m1)) := Lib.hid (hrd.out.heap rfl)
        have HK4 := Lib.hid (hkb.out.trans (KB.drewN m1))
        have HN4 : Hid ((wr.drewN m1).heap[N]? = some zc27) := hnz
        generalize (wr.drewN m1) = W4 at HX4 HK4 HN4 ⊢
        go_wp2_with fail
        refine (HP1.out _ HX4.out (by omega)).mono ?_
        rintro e w1 ⟨rfl, m2, rfl⟩
        have HX5 : Hid (RX r s (a + 1) bad 0 (W4.drewN m2)) := Lib.hid (HX4.out.heap rfl)
        have HK5 := Lib.hid (HK4.out.trans (KB.drewN m2))
        have HN5 : Hid ((W4.drewN m2).heap[N]? = some zc27) := HN4
        generalize (W4.drewN m2) = W5 at HX5 HK5 HN5 ⊢
        obtain ⟨d0, d1, d2, d3, g1, g2, g3⟩ := HX5.out.c
        rw [show ((a + 1 : Nat) : Int) = (a : Int) + 1 from by omega] at d1
        go_wp2_with fail
        refine (fail_first r s (a + 1) bad 5 _ _ HX5.out).mono ?_
        rintro e w9 ⟨rfl, hx9, hk9⟩
        have HX9 := Lib.hid hx9
        have HK9 := Lib.hid (HK5.out.trans hk9)
        have HN9 : Hid (w9.heap[N]? = some zc27) := Lib.hid ((hk9.block N (Array.getElem?_eq_some_iff.1 HN5.out).1 (by have := HRN.out; simp; omega)).trans HN5.out)
        clear hx9 hk9 d0 d1 d2 d3 g1 g2 g3
        obtain ⟨⟨q0, k0⟩, ⟨q1, k1⟩, ⟨q2, k2⟩, ⟨q3, k3⟩⟩ := zero_cells HN9.out
        go_wp2_with fail
        refine bodyPost_ret (v := .agg #[.int .i64 0, .int .i64 0, .string ⟨#[]⟩, .slice none 0 0]) (by simp [results, Tryz.results64, go_sem, q0, q1, q2, q3]) rfl ?_
        show RvP _ _ _ _ _ _ _
        (try rw [HTT.out])
        have hNs := HN.out
        exact ⟨⟨_, _, _, _, _, _, rfl⟩, ⟨(a + 1), HX9.out.set4 HRN.out _ _ _ _⟩, rfl, HK9.out.set4 (by omega) _ _ _ _⟩
      · have HTT := HT.out
        rw [if_neg hd] at HTT
        have HTT := Lib.hid HTT
        clear HT
        have hd2 : pkI s (a + 1) < 48 ∨ (48 ≤ pkI s (a + 1) ∧ 57 < pkI s (a + 1)) := by omega
        clear hd
        generalize pkI s (a + 1) = pk at HP1 hd2
        rcases hd2 with h4 | ⟨h4, h5⟩
        · go_wp2_with fail
          refine (HP1.out _ hrd.out (by omega)).mono ?_
          rintro e w1 ⟨rfl, m1, rfl⟩
          have HX4 : Hid (RX r s (a + 1) bad 0 (wr.drewN m1)) := Lib.hid (hrd.out.heap rfl)
          have HK4 := Lib.hid (hkb.out.trans (KB.drewN m1))
          have HN4 : Hid ((wr.drewN m1).heap[N]? = some zc27) := hnz
          generalize (wr.drewN m1) = W4 at HX4 HK4 HN4 ⊢
          obtain ⟨d0, d1, d2, d3, g1, g2, g3⟩ := HX4.out.c
          obtain ⟨⟨q0, k0⟩, ⟨q1, k1⟩, ⟨q2, k2⟩, ⟨q3, k3⟩⟩ := zero_cells HN4.out
          go_wp2_with fail
          refine bodyPost_ret (v := .agg #[.int .i64 3, .int .i64 0, .string ⟨#[]⟩, .slice none 0 0]) (by simp [results, Tryz.results64, go_sem, q0, q1, q2, q3]) rfl ?_
          show RvP _ _ _ _ _ _ _
          (try rw [HTT.out])
          have hNs := HN.out
          exact ⟨[.int .i64 3, .int .i64 0, .string ⟨#[]⟩, .slice none 0 0], [], rfl, ⟨by decide, by simp, none, 0, rfl, .inl ⟨rfl, rfl⟩⟩, by simp, HX4.out.set4 HRN.out _ _ _ _, HK4.out.set4 (by omega) _ _ _ _⟩
        · go_wp2_with fail
          refine (HP1.out _ hrd.out (by omega)).mono ?_
          rintro e w1 ⟨rfl, m1, rfl⟩
          have HX4 : Hid (RX r s (a + 1) bad 0 (wr.drewN m1)) := Lib.hid (hrd.out.heap rfl)
          have HK4 := Lib.hid (hkb.out.trans (KB.drewN m1))
          have HN4 : Hid ((wr.drewN m1).heap[N]? = some zc27) := hnz
          generalize (wr.drewN m1) = W4 at HX4 HK4 HN4 ⊢
          go_wp2_with fail
          refine (HP1.out _ HX4.out (by omega)).mono ?_
          rintro e w1 ⟨rfl, m2, rfl⟩
          have HX5 : Hid (RX r s (a + 1) bad 0 (W4.drewN m2)) := Lib.hid (HX4.out.heap rfl)
          have HK5 := Lib.hid (HK4.out.trans (KB.drewN m2))
          have HN5 : Hid ((W4.drewN m2).heap[N]? = some zc27) := HN4
          generalize (W4.drewN m2) = W5 at HX5 HK5 HN5 ⊢
          obtain ⟨d0, d1, d2, d3, g1, g2, g3⟩ := HX5.out.c
          obtain ⟨⟨q0, k0⟩, ⟨q1, k1⟩, ⟨q2, k2⟩, ⟨q3, k3⟩⟩ := zero_cells HN5.out
          go_wp2_with fail
          refine bodyPost_ret (v := .agg #[.int .i64 3, .int .i64 0, .string ⟨#[]⟩, .slice none 0 0]) (by simp [results, Tryz.results64, go_sem, q0, q1, q2, q3]) rfl ?_
          show RvP _ _ _ _ _ _ _
          (try rw [HTT.out])
          have hNs := HN.out
          exact ⟨[.int .i64 3, .int .i64 0, .string ⟨#[]⟩, .slice none 0 0], [], rfl, ⟨by decide, by simp, none, 0, rfl, .inl ⟨rfl, rfl⟩⟩, by simp, HX5.out.set4 HRN.out _ _ _ _, HK5.out.set4 (by omega) _ _ _ _⟩
/-- The reference's number. -/
theorem rxnum_any (r : Nat) (s : ByteArray) (a z : Nat) (bad : Int) (w : World) (h : RX r s a bad 0 w) (ha : a ≤ s.size) (hs : s.size ≤ 1048576) : Calls Tryz.prog 64 #[.pointer (some ⟨r, 0, none⟩)] w (RvQ r s bad w (numX s a z)) := by
  by_cases h45 : pkI s a = 45
  · have hlt : a < s.size := pkI_lt ha (by omega)
    have hc := at_some hlt
    have h0 : s[a].toNat = 45 := by have := pkI_at hlt; omega
    have hX : numX s a z = numR s a z := by unfold numX; rw [if_neg (by omega)]
    have hd : (pkI s (a + 1) < 48 ∨ 57 < pkI s (a + 1) ∨ pkI s (a + 1) = 48) ∨ (49 ≤ pkI s (a + 1) ∧ pkI s (a + 1) ≤ 57) := by omega
    have hbad : (pkI s (a + 1) < 48 ∨ 57 < pkI s (a + 1) ∨ pkI s (a + 1) = 48) → numR s a z = .error (a + 1, 5) := fun hh => by
      unfold numR
      rw [hc]
      simp only
      rw [if_pos h0]
      cases hd : s.data.toList[a + 1]? with
      | none => rfl
      | some d => rw [pkI_some hd] at hh; simp only; rw [if_neg (by omega)]
    rw [hX]
    rcases hd with hd | hd
    · rw [hbad hd]
      rcases hd with hd | hd | hd
      · exact rxnum_b3 r s a bad w h ha hs h45 hd
      · exact rxnum_b4 r s a bad w h ha hs h45 hd
      · exact rxnum_b5 r s a bad w h ha hs h45 hd
    · have hlt2 : a + 1 < s.size := pkI_lt (by omega) (by omega)
      have hc2 := at_some hlt2
      have hd2 : 49 ≤ s[a + 1].toNat ∧ s[a + 1].toNat ≤ 57 := by have := pkI_at hlt2; omega
      have hY : numR s a z = numY true a z (digN s.data.toList (s.size + 2) (a + 1) 0) := by
        rw [show s.size = s.data.toList.length from by simp]
        rw [← numY_neg hc h0 hc2 hd2]
        unfold numR
        rw [hc]
        simp only
        rw [if_pos h0, hc2]
        simp only
        rw [if_pos hd2]
      rw [hY]
      exact rxnum_neg r s a z bad w h hlt hs h45 hd
  · by_cases h48 : pkI s a = 48
    · have hlt : a < s.size := pkI_lt ha (by omega)
      have hz := numX_at s a z
      have hX : numX s a z = if 48 ≤ pkI s (a + 1) ∧ pkI s (a + 1) ≤ 57 then .error (a + 1, 5) else .ok (.int 0, a + 1, z) := by
        unfold numX
        by_cases hd : 48 ≤ pkI s (a + 1) ∧ pkI s (a + 1) ≤ 57
        · rw [if_pos ⟨h48, hd⟩, if_pos hd]
        · rw [if_neg (fun hh => hd hh.2), if_neg hd]
          have hc : s.data.toList[a]? = some 48 := (pkI_lit 48).1 h48
          unfold numR
          rw [hc]
          have e : (s.extract a (a + 1)).data.toList = [48] := by
            rw [extract_list, take_cons' hc (by omega)]; simp
          simp only [numEnd]
          have hp : Lib.parseIntB 64 (s.extract a (a + 1)).data.toList = .ok 0 := by rw [e]; decide
          exact numV_ok hp
      rw [hX]
      exact rxnum_zero r s a bad w h ha hs z h48
    · have hX : numX s a z = numR s a z := by unfold numX; rw [if_neg (by omega)]
      rw [hX]
      by_cases hd : 48 ≤ pkI s a ∧ pkI s a ≤ 57
      · have hlt : a < s.size := pkI_lt ha (by omega)
        have hc := at_some hlt
        have h0 := pkI_at hlt
        have hd2 : 49 ≤ s[a].toNat ∧ s[a].toNat ≤ 57 := by omega
        have hY : numR s a z = numY false a z (digN s.data.toList (s.size + 2) a 0) := by
          rw [show s.size = s.data.toList.length from by simp]
          rw [← numY_pos hc hd2]
          unfold numR
          rw [hc]
          simp only
          rw [if_neg (by omega), if_pos (by omega)]
        rw [hY]
        exact rxnum_pos r s a z bad w h hlt hs (by omega)
      · rw [numR_nodigit (by omega)]
        by_cases hd1 : pkI s a < 48
        · exact rxnum_b1 r s a bad w h ha hs hd1 h45
        · exact rxnum_b2 r s a bad w h ha hs (by omega)
end

section
open Go.RowKit
set_option maxRecDepth 100000
theorem valX_bd {s : ByteArray} {k a z deep : Nat} {t : VT} {a' z' : Nat} (ha : a ≤ s.size) (hz : z ≤ a) (h : valX s k a z deep = .ok (t, a', z')) : a < a' ∧ a' ≤ s.size ∧ z' ≤ a' := by
  rcases valX_at (s := s) k a z deep with h1 | ⟨e, t1, z1, h1, _⟩
  · exact valR_bd k a z deep t a' z' ha hz (h1 ▸ h)
  · rw [h1] at h; cases h
theorem plainsOf_app : ∀ (l : List VT) (t : VT), plainsOf (l ++ [t]) = plainsOf l ++ [plainOf t]
  | [], t => by simp [plainsOf]
  | x :: l, t => by simp [plainsOf, plainsOf_app l t]
theorem set4_ne {w : World} {b g : Nat} (h : g ≠ b) (x0 x1 x2 x3 : Value) : ((((w.setCell ⟨b, 0, none⟩ x0).setCell ⟨b, 1, none⟩ x1).setCell ⟨b, 2, none⟩ x2).setCell ⟨b, 3, none⟩ x3).heap[g]? = w.heap[g]? := by
  rw [heap_set_ne _ h, heap_set_ne _ h, heap_set_ne _ h, heap_set_ne _ h]
theorem rv_kb {r : Nat} {s : ByteArray} {bad : Int} {w w' : World} {x : RR} {e : Ending} (h : RvQ r s bad w x e w') : KB r w w' := by
  rcases x with ⟨p, c⟩ | ⟨t, a', z'⟩
  · obtain ⟨_, _, _, h⟩ : RvP r s bad w (.error (p, c)) e w' := h
    exact h
  · obtain ⟨_, _, _, _, _, _, h⟩ : RvP r s bad w (.ok (t, a', z')) e w' := h
    exact h
theorem rv_form {r : Nat} {s : ByteArray} {bad : Int} {w w' : World} {x : RR} {e : Ending} (h : RvQ r s bad w x e w') : ∃ k n sv la ln lc, e = .returned (.agg #[.int .i64 k, .int .i64 n, .string sv, .slice la ln lc]) := by
  rcases x with ⟨p, c⟩ | ⟨t, a', z'⟩
  · obtain ⟨h, _⟩ : RvP r s bad w (.error (p, c)) e w' := h
    exact h
  · obtain ⟨cs, bs, rfl, hh, _⟩ : RvP r s bad w (.ok (t, a', z')) e w' := h
    obtain ⟨k2, n2, s2, la2, ln2, lc2, rfl⟩ := hh.form
    exact ⟨k2, n2, s2, la2, ln2, lc2, rfl⟩
theorem rv_done {r N : Nat} {s : ByteArray} {bad : Int} {w W w' : World} {x : RR} {e : Ending} (h : RvQ r s bad W x e w') (hk : KB r w W) (h1 : w.heap.size ≤ N) (h2 : N < W.heap.size) (h3 : r ≠ N) (x0 x1 x2 x3 : Value) :
    RvP r s bad w x e ((((w'.setCell ⟨N, 0, none⟩ x0).setCell ⟨N, 1, none⟩ x1).setCell ⟨N, 2, none⟩ x2).setCell ⟨N, 3, none⟩ x3) := by
  have hkb := rv_kb h
  rcases x with ⟨p, c⟩ | ⟨t, a', z'⟩
  · obtain ⟨g1, ⟨a', g2⟩, g3, g4⟩ : RvP r s bad W (.error (p, c)) e w' := h
    exact ⟨g1, ⟨a', g2.set4 h3 _ _ _ _⟩, g3, (hk.trans g4).set4 h1 _ _ _ _⟩
  · obtain ⟨cs, bs, rfl, hh, hg, hx, g4⟩ : RvP r s bad W (.ok (t, a', z')) e w' := h
    exact ⟨cs, bs, rfl, HasP.keep _ _ _ (fun g hg' => set4_ne (by have := hg g hg'; omega) _ _ _ _) hh, fun g hg' => by have := hg g hg'; have := hk.size; omega, hx.set4 h3 _ _ _ _, (hk.trans g4).set4 h1 _ _ _ _⟩
theorem wd_kb {r : Nat} {s : ByteArray} {bad : Int} {w w' : World} {x : Except Nat Nat} (h : WdX r s bad w x w') : KB r w w' := by
  cases x <;> exact h.2
theorem wd_done {r N : Nat} {s : ByteArray} {bad : Int} {w W w' : World} {x : Except Nat Nat} {t : VT} {z : Nat} {k n : Int} (hp : plainOf t = .mk k n ⟨#[]⟩ []) (h : WdX r s bad W x w') (hk : KB r w W) (h1 : w.heap.size ≤ N) (h3 : r ≠ N) (x0 x1 x2 x3 : Value) :
    RvP r s bad w (wordV t z x) (.returned (.agg #[.int .i64 k, .int .i64 n, .string ⟨#[]⟩, .slice none 0 0])) ((((w'.setCell ⟨N, 0, none⟩ x0).setCell ⟨N, 1, none⟩ x1).setCell ⟨N, 2, none⟩ x2).setCell ⟨N, 3, none⟩ x3) := by
  rcases x with p | a'
  · obtain ⟨g1, g2⟩ := h
    exact ⟨⟨_, _, _, _, _, _, rfl⟩, ⟨p, g1.set4 h3 _ _ _ _⟩, rfl, (hk.trans g2).set4 h1 _ _ _ _⟩
  · obtain ⟨g1, g2⟩ := h
    refine ⟨[.int .i64 k, .int .i64 n, .string ⟨#[]⟩, .slice none 0 0], [], rfl, ?_, by simp, g1.set4 h3 _ _ _ _, (hk.trans g2).set4 h1 _ _ _ _⟩
    rw [hp]
    exact ⟨by decide, by simp, none, 0, rfl, .inl ⟨rfl, rfl⟩⟩
def RvFor (r : Nat) (s : ByteArray) (bad : Int) (k : Nat) : Prop := ∀ (a z deep : Nat) (w : World), RX r s a bad 0 w → a ≤ s.size → z ≤ a → 3 * (s.size - a) + 3 ≤ k → deep ≤ 64 →
  Calls Tryz.prog 42 #[.pointer (some ⟨r, 0, none⟩), .int .i64 deep] w (RvQ r s bad w (valX s k a z deep))
set_option maxHeartbeats 4000000 in
theorem rxv_unit (r : Nat) (s : ByteArray) (a z deep : Nat) (bad : Int) (w : World) (h : RX r s a bad 0 w) (ha : a ≤ s.size) (hs : s.size ≤ 1048576) (hd : deep ≤ 64) (h1 : pkI s a = 117) :
    Calls Tryz.prog 42 #[.pointer (some ⟨r, 0, none⟩), .int .i64 deep] w (RvQ r s bad w (wordV .unit (z + 1) (wordR s.data.toList [117, 110, 105, 116] a))) := by
  have H := Lib.hid h
  have hrl := h.lt
  have hXB := h.heap (Below.heap_alloc w (.cells #[.int .i64 0, .int .i64 0, .string ⟨#[]⟩, .slice none 0 0] 27) r hrl)
  obtain ⟨c0, c1, c2, c3, f1, f2, f3⟩ := hXB.c
  clear h hXB
  obtain ⟨N, hN⟩ : ∃ N, N = w.heap.size := ⟨_, rfl⟩
  have HRN : Hid (r ≠ N) := Lib.hid (by omega)
  have HRL := Lib.hid hrl
  have HX0 := Lib.hid (H.out.heap (Below.heap_alloc w (.cells #[.int .i64 0, .int .i64 0, .string ⟨#[]⟩, .slice none 0 0] 27) r hrl))
  have HNZ := heap_alloc_new w (.cells #[.int .i64 0, .int .i64 0, .string ⟨#[]⟩, .slice none 0 0] 27)
  rw [← hN] at HNZ
  have HNZ : Hid ((w.alloc (.cells #[.int .i64 0, .int .i64 0, .string ⟨#[]⟩, .slice none 0 0] 27)).heap[N]? = some zc27) := Lib.hid HNZ
  have HKA : Hid (KB r w (w.alloc (.cells #[.int .i64 0, .int .i64 0, .string ⟨#[]⟩, .slice none 0 0] 27))) := Lib.hid ((KB.refl r w).alloc _)
  have HN := Lib.hid hN
  clear hN hrl
  have HPK := Lib.hid (fun (q : Nat) (w' : World) (h : RX r s q bad 0 w') (hq : q ≤ s.size) => peek_any r s q bad 0 w' h hq hs)
  have HPa := Lib.hid (HPK.out a)
  rw [h1] at HPa
  clear h1
  go_enter Tryz.func42, Tryz.ntmps42
  go_wp2_with fail
  have hN := HN.out
  simp only [← hN]
  clear hN
  generalize (w.alloc (.cells #[.int .i64 0, .int .i64 0, .string ⟨#[]⟩, .slice none 0 0] 27)) = W0 at HX0 HNZ HKA ⊢
  clear c0 c1 c2 c3 f1 f2 f3
  refine (HPa.out _ HX0.out ha).mono ?_
  rintro e w1 ⟨rfl, m, rfl⟩
  have HX1 : Hid (RX r s a bad 0 (W0.drewN m)) := Lib.hid (HX0.out.heap rfl)
  have HK1 := Lib.hid (HKA.out.trans (KB.drewN m))
  have HN1 : Hid ((W0.drewN m).heap[N]? = some zc27) := HNZ
  generalize (W0.drewN m) = W1 at HX1 HK1 HN1 ⊢
  obtain ⟨d0, d1, d2, d3, g1, g2, g3⟩ := HX1.out.c
  go_wp2_with fail
  refine (rword_any r s a bad ⟨#[117, 110, 105, 116]⟩ _ HX1.out ha hs (by decide)).mono ?_
  rintro e w2 ⟨rfl, hq⟩
  have hq : WdX r s bad W1 (wordR s.data.toList [117, 110, 105, 116] a) w2 := hq
  have HQ := Lib.hid hq
  have HN2 : Hid (w2.heap[N]? = some zc27) := Lib.hid (((wd_kb hq).block N (Array.getElem?_eq_some_iff.1 HN1.out).1 (by have := HRN.out; simp; omega)).trans HN1.out)
  clear hq d0 d1 d2 d3 g1 g2 g3
  obtain ⟨⟨q0, fz0⟩, ⟨q1, fz1⟩, ⟨q2, fz2⟩, ⟨q3, fz3⟩⟩ := zero_cells HN2.out
  go_wp2_with fail
  refine bodyPost_ret (v := .agg #[.int .i64 1, .int .i64 0, .string ⟨#[]⟩, .slice none 0 0]) (by simp [results, Tryz.results42, go_sem, q0, q1, q2, q3]) rfl ?_
  show RvP _ _ _ _ _ _ _
  have hNs := HN.out
  exact wd_done rfl HQ.out HK1.out (by omega) HRN.out _ _ _ _
set_option maxHeartbeats 4000000 in
theorem rxv_yes (r : Nat) (s : ByteArray) (a z deep : Nat) (bad : Int) (w : World) (h : RX r s a bad 0 w) (ha : a ≤ s.size) (hs : s.size ≤ 1048576) (hd : deep ≤ 64) (h1 : pkI s a = 121) :
    Calls Tryz.prog 42 #[.pointer (some ⟨r, 0, none⟩), .int .i64 deep] w (RvQ r s bad w (wordV (.truth true) (z + 1) (wordR s.data.toList [121, 101, 115] a))) := by
  have H := Lib.hid h
  have hrl := h.lt
  have hXB := h.heap (Below.heap_alloc w (.cells #[.int .i64 0, .int .i64 0, .string ⟨#[]⟩, .slice none 0 0] 27) r hrl)
  obtain ⟨c0, c1, c2, c3, f1, f2, f3⟩ := hXB.c
  clear h hXB
  obtain ⟨N, hN⟩ : ∃ N, N = w.heap.size := ⟨_, rfl⟩
  have HRN : Hid (r ≠ N) := Lib.hid (by omega)
  have HRL := Lib.hid hrl
  have HX0 := Lib.hid (H.out.heap (Below.heap_alloc w (.cells #[.int .i64 0, .int .i64 0, .string ⟨#[]⟩, .slice none 0 0] 27) r hrl))
  have HNZ := heap_alloc_new w (.cells #[.int .i64 0, .int .i64 0, .string ⟨#[]⟩, .slice none 0 0] 27)
  rw [← hN] at HNZ
  have HNZ : Hid ((w.alloc (.cells #[.int .i64 0, .int .i64 0, .string ⟨#[]⟩, .slice none 0 0] 27)).heap[N]? = some zc27) := Lib.hid HNZ
  have HKA : Hid (KB r w (w.alloc (.cells #[.int .i64 0, .int .i64 0, .string ⟨#[]⟩, .slice none 0 0] 27))) := Lib.hid ((KB.refl r w).alloc _)
  have HN := Lib.hid hN
  clear hN hrl
  have HPK := Lib.hid (fun (q : Nat) (w' : World) (h : RX r s q bad 0 w') (hq : q ≤ s.size) => peek_any r s q bad 0 w' h hq hs)
  have HPa := Lib.hid (HPK.out a)
  rw [h1] at HPa
  clear h1
  go_enter Tryz.func42, Tryz.ntmps42
  go_wp2_with fail
  have hN := HN.out
  simp only [← hN]
  clear hN
  generalize (w.alloc (.cells #[.int .i64 0, .int .i64 0, .string ⟨#[]⟩, .slice none 0 0] 27)) = W0 at HX0 HNZ HKA ⊢
  clear c0 c1 c2 c3 f1 f2 f3
  refine (HPa.out _ HX0.out ha).mono ?_
  rintro e w1 ⟨rfl, m, rfl⟩
  have HX1 : Hid (RX r s a bad 0 (W0.drewN m)) := Lib.hid (HX0.out.heap rfl)
  have HK1 := Lib.hid (HKA.out.trans (KB.drewN m))
  have HN1 : Hid ((W0.drewN m).heap[N]? = some zc27) := HNZ
  generalize (W0.drewN m) = W1 at HX1 HK1 HN1 ⊢
  obtain ⟨d0, d1, d2, d3, g1, g2, g3⟩ := HX1.out.c
  go_wp2_with fail
  refine (rword_any r s a bad ⟨#[121, 101, 115]⟩ _ HX1.out ha hs (by decide)).mono ?_
  rintro e w2 ⟨rfl, hq⟩
  have hq : WdX r s bad W1 (wordR s.data.toList [121, 101, 115] a) w2 := hq
  have HQ := Lib.hid hq
  have HN2 : Hid (w2.heap[N]? = some zc27) := Lib.hid (((wd_kb hq).block N (Array.getElem?_eq_some_iff.1 HN1.out).1 (by have := HRN.out; simp; omega)).trans HN1.out)
  clear hq d0 d1 d2 d3 g1 g2 g3
  obtain ⟨⟨q0, fz0⟩, ⟨q1, fz1⟩, ⟨q2, fz2⟩, ⟨q3, fz3⟩⟩ := zero_cells HN2.out
  go_wp2_with fail
  refine bodyPost_ret (v := .agg #[.int .i64 2, .int .i64 1, .string ⟨#[]⟩, .slice none 0 0]) (by simp [results, Tryz.results42, go_sem, q0, q1, q2, q3]) rfl ?_
  show RvP _ _ _ _ _ _ _
  have hNs := HN.out
  exact wd_done rfl HQ.out HK1.out (by omega) HRN.out _ _ _ _
set_option maxHeartbeats 4000000 in
theorem rxv_no (r : Nat) (s : ByteArray) (a z deep : Nat) (bad : Int) (w : World) (h : RX r s a bad 0 w) (ha : a ≤ s.size) (hs : s.size ≤ 1048576) (hd : deep ≤ 64) (h1 : pkI s a = 110) :
    Calls Tryz.prog 42 #[.pointer (some ⟨r, 0, none⟩), .int .i64 deep] w (RvQ r s bad w (wordV (.truth false) (z + 1) (wordR s.data.toList [110, 111] a))) := by
  have H := Lib.hid h
  have hrl := h.lt
  have hXB := h.heap (Below.heap_alloc w (.cells #[.int .i64 0, .int .i64 0, .string ⟨#[]⟩, .slice none 0 0] 27) r hrl)
  obtain ⟨c0, c1, c2, c3, f1, f2, f3⟩ := hXB.c
  clear h hXB
  obtain ⟨N, hN⟩ : ∃ N, N = w.heap.size := ⟨_, rfl⟩
  have HRN : Hid (r ≠ N) := Lib.hid (by omega)
  have HRL := Lib.hid hrl
  have HX0 := Lib.hid (H.out.heap (Below.heap_alloc w (.cells #[.int .i64 0, .int .i64 0, .string ⟨#[]⟩, .slice none 0 0] 27) r hrl))
  have HNZ := heap_alloc_new w (.cells #[.int .i64 0, .int .i64 0, .string ⟨#[]⟩, .slice none 0 0] 27)
  rw [← hN] at HNZ
  have HNZ : Hid ((w.alloc (.cells #[.int .i64 0, .int .i64 0, .string ⟨#[]⟩, .slice none 0 0] 27)).heap[N]? = some zc27) := Lib.hid HNZ
  have HKA : Hid (KB r w (w.alloc (.cells #[.int .i64 0, .int .i64 0, .string ⟨#[]⟩, .slice none 0 0] 27))) := Lib.hid ((KB.refl r w).alloc _)
  have HN := Lib.hid hN
  clear hN hrl
  have HPK := Lib.hid (fun (q : Nat) (w' : World) (h : RX r s q bad 0 w') (hq : q ≤ s.size) => peek_any r s q bad 0 w' h hq hs)
  have HPa := Lib.hid (HPK.out a)
  rw [h1] at HPa
  clear h1
  go_enter Tryz.func42, Tryz.ntmps42
  go_wp2_with fail
  have hN := HN.out
  simp only [← hN]
  clear hN
  generalize (w.alloc (.cells #[.int .i64 0, .int .i64 0, .string ⟨#[]⟩, .slice none 0 0] 27)) = W0 at HX0 HNZ HKA ⊢
  clear c0 c1 c2 c3 f1 f2 f3
  refine (HPa.out _ HX0.out ha).mono ?_
  rintro e w1 ⟨rfl, m, rfl⟩
  have HX1 : Hid (RX r s a bad 0 (W0.drewN m)) := Lib.hid (HX0.out.heap rfl)
  have HK1 := Lib.hid (HKA.out.trans (KB.drewN m))
  have HN1 : Hid ((W0.drewN m).heap[N]? = some zc27) := HNZ
  generalize (W0.drewN m) = W1 at HX1 HK1 HN1 ⊢
  obtain ⟨d0, d1, d2, d3, g1, g2, g3⟩ := HX1.out.c
  go_wp2_with fail
  refine (rword_any r s a bad ⟨#[110, 111]⟩ _ HX1.out ha hs (by decide)).mono ?_
  rintro e w2 ⟨rfl, hq⟩
  have hq : WdX r s bad W1 (wordR s.data.toList [110, 111] a) w2 := hq
  have HQ := Lib.hid hq
  have HN2 : Hid (w2.heap[N]? = some zc27) := Lib.hid (((wd_kb hq).block N (Array.getElem?_eq_some_iff.1 HN1.out).1 (by have := HRN.out; simp; omega)).trans HN1.out)
  clear hq d0 d1 d2 d3 g1 g2 g3
  obtain ⟨⟨q0, fz0⟩, ⟨q1, fz1⟩, ⟨q2, fz2⟩, ⟨q3, fz3⟩⟩ := zero_cells HN2.out
  go_wp2_with fail
  refine bodyPost_ret (v := .agg #[.int .i64 2, .int .i64 0, .string ⟨#[]⟩, .slice none 0 0]) (by simp [results, Tryz.results42, go_sem, q0, q1, q2, q3]) rfl ?_
  show RvP _ _ _ _ _ _ _
  have hNs := HN.out
  exact wd_done rfl HQ.out HK1.out (by omega) HRN.out _ _ _ _
set_option maxHeartbeats 4000000 in
theorem rxv_minus (r : Nat) (s : ByteArray) (a z deep : Nat) (bad : Int) (w : World) (h : RX r s a bad 0 w) (ha : a ≤ s.size) (hs : s.size ≤ 1048576) (hd : deep ≤ 64) (h1 : pkI s a = 45) :
    Calls Tryz.prog 42 #[.pointer (some ⟨r, 0, none⟩), .int .i64 deep] w (RvQ r s bad w (numX s a (z + 1))) := by
  have H := Lib.hid h
  have hrl := h.lt
  have hXB := h.heap (Below.heap_alloc w (.cells #[.int .i64 0, .int .i64 0, .string ⟨#[]⟩, .slice none 0 0] 27) r hrl)
  obtain ⟨c0, c1, c2, c3, f1, f2, f3⟩ := hXB.c
  clear h hXB
  obtain ⟨N, hN⟩ : ∃ N, N = w.heap.size := ⟨_, rfl⟩
  have HRN : Hid (r ≠ N) := Lib.hid (by omega)
  have HRL := Lib.hid hrl
  have HX0 := Lib.hid (H.out.heap (Below.heap_alloc w (.cells #[.int .i64 0, .int .i64 0, .string ⟨#[]⟩, .slice none 0 0] 27) r hrl))
  have HNZ := heap_alloc_new w (.cells #[.int .i64 0, .int .i64 0, .string ⟨#[]⟩, .slice none 0 0] 27)
  rw [← hN] at HNZ
  have HNZ : Hid ((w.alloc (.cells #[.int .i64 0, .int .i64 0, .string ⟨#[]⟩, .slice none 0 0] 27)).heap[N]? = some zc27) := Lib.hid HNZ
  have HKA : Hid (KB r w (w.alloc (.cells #[.int .i64 0, .int .i64 0, .string ⟨#[]⟩, .slice none 0 0] 27))) := Lib.hid ((KB.refl r w).alloc _)
  have HN := Lib.hid hN
  clear hN hrl
  have HPK := Lib.hid (fun (q : Nat) (w' : World) (h : RX r s q bad 0 w') (hq : q ≤ s.size) => peek_any r s q bad 0 w' h hq hs)
  have HPa := Lib.hid (HPK.out a)
  rw [h1] at HPa
  clear h1
  go_enter Tryz.func42, Tryz.ntmps42
  go_wp2_with fail
  have hN := HN.out
  simp only [← hN]
  clear hN
  generalize (w.alloc (.cells #[.int .i64 0, .int .i64 0, .string ⟨#[]⟩, .slice none 0 0] 27)) = W0 at HX0 HNZ HKA ⊢
  clear c0 c1 c2 c3 f1 f2 f3
  refine (HPa.out _ HX0.out ha).mono ?_
  rintro e w1 ⟨rfl, m, rfl⟩
  have HX1 : Hid (RX r s a bad 0 (W0.drewN m)) := Lib.hid (HX0.out.heap rfl)
  have HK1 := Lib.hid (HKA.out.trans (KB.drewN m))
  have HN1 : Hid ((W0.drewN m).heap[N]? = some zc27) := HNZ
  generalize (W0.drewN m) = W1 at HX1 HK1 HN1 ⊢
  obtain ⟨d0, d1, d2, d3, g1, g2, g3⟩ := HX1.out.c
  go_wp2_with fail
  refine (rxnum_any r s a (z + 1) bad _ HX1.out ha hs).mono ?_
  intro e w2 hq
  obtain ⟨k2, n2, s2, la2, ln2, lc2, rfl⟩ := rv_form hq
  have HQ := Lib.hid hq
  have HN2 : Hid (w2.heap[N]? = some zc27) := Lib.hid (((rv_kb hq).block N (Array.getElem?_eq_some_iff.1 HN1.out).1 (by have := HRN.out; simp; omega)).trans HN1.out)
  clear hq d0 d1 d2 d3 g1 g2 g3
  obtain ⟨⟨q0, fz0⟩, ⟨q1, fz1⟩, ⟨q2, fz2⟩, ⟨q3, fz3⟩⟩ := zero_cells HN2.out
  go_wp2_with fail
  refine bodyPost_ret (v := .agg #[.int .i64 k2, .int .i64 n2, .string s2, .slice la2 ln2 lc2]) (by simp [results, Tryz.results42, go_sem, q0, q1, q2, q3]) rfl ?_
  show RvP _ _ _ _ _ _ _
  have hNs := HN.out
  exact rv_done HQ.out HK1.out (by omega) (Array.getElem?_eq_some_iff.1 HN1.out).1 HRN.out _ _ _ _
set_option maxHeartbeats 4000000 in
theorem rxv_digit (r : Nat) (s : ByteArray) (a z deep : Nat) (bad : Int) (w : World) (h : RX r s a bad 0 w) (ha : a ≤ s.size) (hs : s.size ≤ 1048576) (hd : deep ≤ 64) (h1 : 48 ≤ pkI s a ∧ pkI s a ≤ 57) :
    Calls Tryz.prog 42 #[.pointer (some ⟨r, 0, none⟩), .int .i64 deep] w (RvQ r s bad w (numX s a (z + 1))) := by
  have H := Lib.hid h
  have hrl := h.lt
  have hXB := h.heap (Below.heap_alloc w (.cells #[.int .i64 0, .int .i64 0, .string ⟨#[]⟩, .slice none 0 0] 27) r hrl)
  obtain ⟨c0, c1, c2, c3, f1, f2, f3⟩ := hXB.c
  clear h hXB
  obtain ⟨N, hN⟩ : ∃ N, N = w.heap.size := ⟨_, rfl⟩
  have HRN : Hid (r ≠ N) := Lib.hid (by omega)
  have HRL := Lib.hid hrl
  have HX0 := Lib.hid (H.out.heap (Below.heap_alloc w (.cells #[.int .i64 0, .int .i64 0, .string ⟨#[]⟩, .slice none 0 0] 27) r hrl))
  have HNZ := heap_alloc_new w (.cells #[.int .i64 0, .int .i64 0, .string ⟨#[]⟩, .slice none 0 0] 27)
  rw [← hN] at HNZ
  have HNZ : Hid ((w.alloc (.cells #[.int .i64 0, .int .i64 0, .string ⟨#[]⟩, .slice none 0 0] 27)).heap[N]? = some zc27) := Lib.hid HNZ
  have HKA : Hid (KB r w (w.alloc (.cells #[.int .i64 0, .int .i64 0, .string ⟨#[]⟩, .slice none 0 0] 27))) := Lib.hid ((KB.refl r w).alloc _)
  have HN := Lib.hid hN
  clear hN hrl
  have HPK := Lib.hid (fun (q : Nat) (w' : World) (h : RX r s q bad 0 w') (hq : q ≤ s.size) => peek_any r s q bad 0 w' h hq hs)
  have HPa := Lib.hid (HPK.out a)
  have n117 : (pkI s a == 117) = false := by simp; omega
  have n121 : (pkI s a == 121) = false := by simp; omega
  have n110 : (pkI s a == 110) = false := by simp; omega
  have n45 : (pkI s a == 45) = false := by simp; omega
  obtain ⟨h4, h5⟩ := h1
  generalize pkI s a = pk at HPa n117 n121 n110 n45 h4 h5
  go_enter Tryz.func42, Tryz.ntmps42
  go_wp2_with fail
  have hN := HN.out
  simp only [← hN]
  clear hN
  generalize (w.alloc (.cells #[.int .i64 0, .int .i64 0, .string ⟨#[]⟩, .slice none 0 0] 27)) = W0 at HX0 HNZ HKA ⊢
  clear c0 c1 c2 c3 f1 f2 f3
  refine (HPa.out _ HX0.out ha).mono ?_
  rintro e w1 ⟨rfl, m, rfl⟩
  have HX1 : Hid (RX r s a bad 0 (W0.drewN m)) := Lib.hid (HX0.out.heap rfl)
  have HK1 := Lib.hid (HKA.out.trans (KB.drewN m))
  have HN1 : Hid ((W0.drewN m).heap[N]? = some zc27) := HNZ
  generalize (W0.drewN m) = W1 at HX1 HK1 HN1 ⊢
  obtain ⟨d0, d1, d2, d3, g1, g2, g3⟩ := HX1.out.c
  go_wp2_with fail
  refine (rxnum_any r s a (z + 1) bad _ HX1.out ha hs).mono ?_
  intro e w2 hq
  obtain ⟨k2, n2, s2, la2, ln2, lc2, rfl⟩ := rv_form hq
  have HQ := Lib.hid hq
  have HN2 : Hid (w2.heap[N]? = some zc27) := Lib.hid (((rv_kb hq).block N (Array.getElem?_eq_some_iff.1 HN1.out).1 (by have := HRN.out; simp; omega)).trans HN1.out)
  clear hq d0 d1 d2 d3 g1 g2 g3
  obtain ⟨⟨q0, fz0⟩, ⟨q1, fz1⟩, ⟨q2, fz2⟩, ⟨q3, fz3⟩⟩ := zero_cells HN2.out
  go_wp2_with fail
  refine bodyPost_ret (v := .agg #[.int .i64 k2, .int .i64 n2, .string s2, .slice la2 ln2 lc2]) (by simp [results, Tryz.results42, go_sem, q0, q1, q2, q3]) rfl ?_
  show RvP _ _ _ _ _ _ _
  have hNs := HN.out
  exact rv_done HQ.out HK1.out (by omega) (Array.getElem?_eq_some_iff.1 HN1.out).1 HRN.out _ _ _ _
set_option maxHeartbeats 4000000 in
theorem rxv_text (r : Nat) (s : ByteArray) (a z deep : Nat) (bad : Int) (w : World) (h : RX r s a bad 0 w) (ha : a ≤ s.size) (hs : s.size ≤ 1048576) (hd : deep ≤ 64) (h1 : pkI s a = 34) :
    Calls Tryz.prog 42 #[.pointer (some ⟨r, 0, none⟩), .int .i64 deep] w (RvQ r s bad w (textV (z + 1) (textF s.data.toList (s.size + 1) (a + 1) []))) := by
  have H := Lib.hid h
  have hrl := h.lt
  have hXB := h.heap (Below.heap_alloc w (.cells #[.int .i64 0, .int .i64 0, .string ⟨#[]⟩, .slice none 0 0] 27) r hrl)
  obtain ⟨c0, c1, c2, c3, f1, f2, f3⟩ := hXB.c
  clear h hXB
  obtain ⟨N, hN⟩ : ∃ N, N = w.heap.size := ⟨_, rfl⟩
  have HRN : Hid (r ≠ N) := Lib.hid (by omega)
  have HRL := Lib.hid hrl
  have HX0 := Lib.hid (H.out.heap (Below.heap_alloc w (.cells #[.int .i64 0, .int .i64 0, .string ⟨#[]⟩, .slice none 0 0] 27) r hrl))
  have HNZ := heap_alloc_new w (.cells #[.int .i64 0, .int .i64 0, .string ⟨#[]⟩, .slice none 0 0] 27)
  rw [← hN] at HNZ
  have HNZ : Hid ((w.alloc (.cells #[.int .i64 0, .int .i64 0, .string ⟨#[]⟩, .slice none 0 0] 27)).heap[N]? = some zc27) := Lib.hid HNZ
  have HKA : Hid (KB r w (w.alloc (.cells #[.int .i64 0, .int .i64 0, .string ⟨#[]⟩, .slice none 0 0] 27))) := Lib.hid ((KB.refl r w).alloc _)
  have HN := Lib.hid hN
  clear hN hrl
  have HPK := Lib.hid (fun (q : Nat) (w' : World) (h : RX r s q bad 0 w') (hq : q ≤ s.size) => peek_any r s q bad 0 w' h hq hs)
  have HPa := Lib.hid (HPK.out a)
  have hlt : a < s.size := pkI_lt ha (by omega)
  rw [h1] at HPa
  clear h1
  go_enter Tryz.func42, Tryz.ntmps42
  go_wp2_with fail
  have hN := HN.out
  simp only [← hN]
  clear hN
  generalize (w.alloc (.cells #[.int .i64 0, .int .i64 0, .string ⟨#[]⟩, .slice none 0 0] 27)) = W0 at HX0 HNZ HKA ⊢
  clear c0 c1 c2 c3 f1 f2 f3
  refine (HPa.out _ HX0.out ha).mono ?_
  rintro e w1 ⟨rfl, m, rfl⟩
  have HX1 : Hid (RX r s a bad 0 (W0.drewN m)) := Lib.hid (HX0.out.heap rfl)
  have HK1 := Lib.hid (HKA.out.trans (KB.drewN m))
  have HN1 : Hid ((W0.drewN m).heap[N]? = some zc27) := HNZ
  generalize (W0.drewN m) = W1 at HX1 HK1 HN1 ⊢
  obtain ⟨d0, d1, d2, d3, g1, g2, g3⟩ := HX1.out.c
  go_wp2_with fail
  refine (rxtext_any r s a (z + 1) bad _ HX1.out hlt hs).mono ?_
  intro e w2 hq
  obtain ⟨k2, n2, s2, la2, ln2, lc2, rfl⟩ := rv_form hq
  have HQ := Lib.hid hq
  have HN2 : Hid (w2.heap[N]? = some zc27) := Lib.hid (((rv_kb hq).block N (Array.getElem?_eq_some_iff.1 HN1.out).1 (by have := HRN.out; simp; omega)).trans HN1.out)
  clear hq d0 d1 d2 d3 g1 g2 g3
  obtain ⟨⟨q0, fz0⟩, ⟨q1, fz1⟩, ⟨q2, fz2⟩, ⟨q3, fz3⟩⟩ := zero_cells HN2.out
  go_wp2_with fail
  refine bodyPost_ret (v := .agg #[.int .i64 k2, .int .i64 n2, .string s2, .slice la2 ln2 lc2]) (by simp [results, Tryz.results42, go_sem, q0, q1, q2, q3]) rfl ?_
  show RvP _ _ _ _ _ _ _
  have hNs := HN.out
  exact rv_done HQ.out HK1.out (by omega) (Array.getElem?_eq_some_iff.1 HN1.out).1 HRN.out _ _ _ _
set_option maxHeartbeats 4000000 in
theorem rxv_bad (r : Nat) (s : ByteArray) (a z deep : Nat) (bad : Int) (w : World) (h : RX r s a bad 0 w) (ha : a ≤ s.size) (hs : s.size ≤ 1048576) (hd : deep ≤ 64) (h1 : pkI s a ≠ 117) (h2 : pkI s a ≠ 121) (h3 : pkI s a ≠ 110) (h6 : pkI s a ≠ 45) (h4 : pkI s a < 48 ∨ 57 < pkI s a) (h5 : pkI s a ≠ 34) (h7 : pkI s a ≠ 91) :
    Calls Tryz.prog 42 #[.pointer (some ⟨r, 0, none⟩), .int .i64 deep] w (RvQ r s bad w (.error (a, 5))) := by
  have H := Lib.hid h
  have hrl := h.lt
  have hXB := h.heap (Below.heap_alloc w (.cells #[.int .i64 0, .int .i64 0, .string ⟨#[]⟩, .slice none 0 0] 27) r hrl)
  obtain ⟨c0, c1, c2, c3, f1, f2, f3⟩ := hXB.c
  clear h hXB
  obtain ⟨N, hN⟩ : ∃ N, N = w.heap.size := ⟨_, rfl⟩
  have HRN : Hid (r ≠ N) := Lib.hid (by omega)
  have HRL := Lib.hid hrl
  have HX0 := Lib.hid (H.out.heap (Below.heap_alloc w (.cells #[.int .i64 0, .int .i64 0, .string ⟨#[]⟩, .slice none 0 0] 27) r hrl))
  have HNZ := heap_alloc_new w (.cells #[.int .i64 0, .int .i64 0, .string ⟨#[]⟩, .slice none 0 0] 27)
  rw [← hN] at HNZ
  have HNZ : Hid ((w.alloc (.cells #[.int .i64 0, .int .i64 0, .string ⟨#[]⟩, .slice none 0 0] 27)).heap[N]? = some zc27) := Lib.hid HNZ
  have HKA : Hid (KB r w (w.alloc (.cells #[.int .i64 0, .int .i64 0, .string ⟨#[]⟩, .slice none 0 0] 27))) := Lib.hid ((KB.refl r w).alloc _)
  have HN := Lib.hid hN
  clear hN hrl
  have HPK := Lib.hid (fun (q : Nat) (w' : World) (h : RX r s q bad 0 w') (hq : q ≤ s.size) => peek_any r s q bad 0 w' h hq hs)
  have HPa := Lib.hid (HPK.out a)
  have n117 : (pkI s a == 117) = false := by simp; omega
  have n121 : (pkI s a == 121) = false := by simp; omega
  have n110 : (pkI s a == 110) = false := by simp; omega
  have n45 : (pkI s a == 45) = false := by simp; omega
  have n34 : (pkI s a == 34) = false := by simp; omega
  have n91 : (pkI s a != 91) = true := by simp; omega
  have h8 : ¬ (48 ≤ pkI s a) ∨ (48 ≤ pkI s a ∧ ¬ pkI s a ≤ 57) := by omega
  clear h1 h2 h3 h4 h5 h6 h7
  generalize pkI s a = pk at HPa n117 n121 n110 n45 n34 n91 h8
  go_enter Tryz.func42, Tryz.ntmps42
  go_wp2_with fail
  have hN := HN.out
  simp only [← hN]
  clear hN
  generalize (w.alloc (.cells #[.int .i64 0, .int .i64 0, .string ⟨#[]⟩, .slice none 0 0] 27)) = W0 at HX0 HNZ HKA ⊢
  clear c0 c1 c2 c3 f1 f2 f3
  refine (HPa.out _ HX0.out ha).mono ?_
  rintro e w1 ⟨rfl, m, rfl⟩
  have HX1 : Hid (RX r s a bad 0 (W0.drewN m)) := Lib.hid (HX0.out.heap rfl)
  have HK1 := Lib.hid (HKA.out.trans (KB.drewN m))
  have HN1 : Hid ((W0.drewN m).heap[N]? = some zc27) := HNZ
  generalize (W0.drewN m) = W1 at HX1 HK1 HN1 ⊢
  obtain ⟨d0, d1, d2, d3, g1, g2, g3⟩ := HX1.out.c
  rcases h8 with h8 | ⟨h8, h9⟩
  · go_wp2_with fail
    refine (fail_first r s a bad 5 _ _ HX1.out).mono ?_
    rintro e w2 ⟨rfl, hx9, hk9⟩
    have HX9 := Lib.hid hx9
    have HK9 := Lib.hid (HK1.out.trans hk9)
    have HN2 : Hid (w2.heap[N]? = some zc27) := Lib.hid ((hk9.block N (Array.getElem?_eq_some_iff.1 HN1.out).1 (by have := HRN.out; simp; omega)).trans HN1.out)
    clear hx9 hk9 d0 d1 d2 d3 g1 g2 g3
    obtain ⟨⟨q0, fz0⟩, ⟨q1, fz1⟩, ⟨q2, fz2⟩, ⟨q3, fz3⟩⟩ := zero_cells HN2.out
    go_wp2_with fail
    refine bodyPost_ret (v := .agg #[.int .i64 0, .int .i64 0, .string ⟨#[]⟩, .slice none 0 0]) (by simp [results, Tryz.results42, go_sem, q0, q1, q2, q3]) rfl ?_
    show RvP _ _ _ _ _ _ _
    have hNs := HN.out
    exact ⟨⟨_, _, _, _, _, _, rfl⟩, ⟨a, HX9.out.set4 HRN.out _ _ _ _⟩, rfl, HK9.out.set4 (by omega) _ _ _ _⟩
  · go_wp2_with fail
    refine (fail_first r s a bad 5 _ _ HX1.out).mono ?_
    rintro e w2 ⟨rfl, hx9, hk9⟩
    have HX9 := Lib.hid hx9
    have HK9 := Lib.hid (HK1.out.trans hk9)
    have HN2 : Hid (w2.heap[N]? = some zc27) := Lib.hid ((hk9.block N (Array.getElem?_eq_some_iff.1 HN1.out).1 (by have := HRN.out; simp; omega)).trans HN1.out)
    clear hx9 hk9 d0 d1 d2 d3 g1 g2 g3
    obtain ⟨⟨q0, fz0⟩, ⟨q1, fz1⟩, ⟨q2, fz2⟩, ⟨q3, fz3⟩⟩ := zero_cells HN2.out
    go_wp2_with fail
    refine bodyPost_ret (v := .agg #[.int .i64 0, .int .i64 0, .string ⟨#[]⟩, .slice none 0 0]) (by simp [results, Tryz.results42, go_sem, q0, q1, q2, q3]) rfl ?_
    show RvP _ _ _ _ _ _ _
    have hNs := HN.out
    exact ⟨⟨_, _, _, _, _, _, rfl⟩, ⟨a, HX9.out.set4 HRN.out _ _ _ _⟩, rfl, HK9.out.set4 (by omega) _ _ _ _⟩
set_option maxHeartbeats 4000000 in
theorem rxv_deep (r : Nat) (s : ByteArray) (a z deep : Nat) (bad : Int) (w : World) (h : RX r s a bad 0 w) (ha : a ≤ s.size) (hs : s.size ≤ 1048576) (hd : deep ≤ 64) (h1 : pkI s a = 91) (h2 : deep = 64) :
    Calls Tryz.prog 42 #[.pointer (some ⟨r, 0, none⟩), .int .i64 deep] w (RvQ r s bad w (.error (a, 2))) := by
  have H := Lib.hid h
  have hrl := h.lt
  have hXB := h.heap (Below.heap_alloc w (.cells #[.int .i64 0, .int .i64 0, .string ⟨#[]⟩, .slice none 0 0] 27) r hrl)
  obtain ⟨c0, c1, c2, c3, f1, f2, f3⟩ := hXB.c
  clear h hXB
  obtain ⟨N, hN⟩ : ∃ N, N = w.heap.size := ⟨_, rfl⟩
  have HRN : Hid (r ≠ N) := Lib.hid (by omega)
  have HRL := Lib.hid hrl
  have HX0 := Lib.hid (H.out.heap (Below.heap_alloc w (.cells #[.int .i64 0, .int .i64 0, .string ⟨#[]⟩, .slice none 0 0] 27) r hrl))
  have HNZ := heap_alloc_new w (.cells #[.int .i64 0, .int .i64 0, .string ⟨#[]⟩, .slice none 0 0] 27)
  rw [← hN] at HNZ
  have HNZ : Hid ((w.alloc (.cells #[.int .i64 0, .int .i64 0, .string ⟨#[]⟩, .slice none 0 0] 27)).heap[N]? = some zc27) := Lib.hid HNZ
  have HKA : Hid (KB r w (w.alloc (.cells #[.int .i64 0, .int .i64 0, .string ⟨#[]⟩, .slice none 0 0] 27))) := Lib.hid ((KB.refl r w).alloc _)
  have HN := Lib.hid hN
  clear hN hrl
  have HPK := Lib.hid (fun (q : Nat) (w' : World) (h : RX r s q bad 0 w') (hq : q ≤ s.size) => peek_any r s q bad 0 w' h hq hs)
  have HPa := Lib.hid (HPK.out a)
  rw [h1] at HPa
  clear h1
  have b64 : ((deep : Int) == 64) = true := by subst h2; rfl
  clear h2
  go_enter Tryz.func42, Tryz.ntmps42
  go_wp2_with fail
  have hN := HN.out
  simp only [← hN]
  clear hN
  generalize (w.alloc (.cells #[.int .i64 0, .int .i64 0, .string ⟨#[]⟩, .slice none 0 0] 27)) = W0 at HX0 HNZ HKA ⊢
  clear c0 c1 c2 c3 f1 f2 f3
  refine (HPa.out _ HX0.out ha).mono ?_
  rintro e w1 ⟨rfl, m, rfl⟩
  have HX1 : Hid (RX r s a bad 0 (W0.drewN m)) := Lib.hid (HX0.out.heap rfl)
  have HK1 := Lib.hid (HKA.out.trans (KB.drewN m))
  have HN1 : Hid ((W0.drewN m).heap[N]? = some zc27) := HNZ
  generalize (W0.drewN m) = W1 at HX1 HK1 HN1 ⊢
  obtain ⟨d0, d1, d2, d3, g1, g2, g3⟩ := HX1.out.c
  go_wp2_with fail
  refine (fail_first r s a bad 2 _ _ HX1.out).mono ?_
  rintro e w2 ⟨rfl, hx9, hk9⟩
  have HX9 := Lib.hid hx9
  have HK9 := Lib.hid (HK1.out.trans hk9)
  have HN2 : Hid (w2.heap[N]? = some zc27) := Lib.hid ((hk9.block N (Array.getElem?_eq_some_iff.1 HN1.out).1 (by have := HRN.out; simp; omega)).trans HN1.out)
  clear hx9 hk9 d0 d1 d2 d3 g1 g2 g3
  obtain ⟨⟨q0, fz0⟩, ⟨q1, fz1⟩, ⟨q2, fz2⟩, ⟨q3, fz3⟩⟩ := zero_cells HN2.out
  go_wp2_with fail
  refine bodyPost_ret (v := .agg #[.int .i64 0, .int .i64 0, .string ⟨#[]⟩, .slice none 0 0]) (by simp [results, Tryz.results42, go_sem, q0, q1, q2, q3]) rfl ?_
  show RvP _ _ _ _ _ _ _
  have hNs := HN.out
  exact ⟨⟨_, _, _, _, _, _, rfl⟩, ⟨a, HX9.out.set4 HRN.out _ _ _ _⟩, rfl, HK9.out.set4 (by omega) _ _ _ _⟩
end

section
open Go.RowKit
set_option maxRecDepth 100000
abbrev lc27 (lv : Value) : Obj := .cells #[.int .i64 5, .int .i64 0, .string ⟨#[]⟩, lv] 27 (0, 0)
theorem list_cells {w : World} {N : Nat} {lv : Value} (h : w.heap[N]? = some (lc27 lv)) : (w.cell? ⟨N, 0, none⟩ = some (.int .i64 5) ∧ w.frozen? ⟨N, 0, none⟩ = false) ∧ (w.cell? ⟨N, 1, none⟩ = some (.int .i64 0) ∧ w.frozen? ⟨N, 1, none⟩ = false) ∧ (w.cell? ⟨N, 2, none⟩ = some (.string ⟨#[]⟩) ∧ w.frozen? ⟨N, 2, none⟩ = false) ∧ (w.cell? ⟨N, 3, none⟩ = some lv ∧ w.frozen? ⟨N, 3, none⟩ = false) :=
  ⟨heapcell h 0, heapcell h 1, heapcell h 2, heapcell h 3⟩
theorem lc27_set {w : World} {M : Nat} {lv : Value} (h : w.heap[M]? = some (lc27 lv)) (v : Value) : (w.setCell ⟨M, 3, none⟩ v).heap[M]? = some (lc27 v) := heap_set h v
set_option maxHeartbeats 4000000 in
theorem rxv_list (r : Nat) (s : ByteArray) (a z deep : Nat) (bad : Int) (w : World) (h : RX r s a bad 0 w) (ha : a ≤ s.size) (hs : s.size ≤ 1048576) (hd : deep ≤ 64) (k : Nat) (hI : ∀ j, j < k → RvFor r s bad j) (hk0 : 3 * (s.size - a) + 2 ≤ k + 1) (hz : z ≤ a + 1) (h1 : pkI s a = 91) (h64 : deep ≠ 64) :
    Calls Tryz.prog 42 #[.pointer (some ⟨r, 0, none⟩), .int .i64 deep] w (RvQ r s bad w (listX s (k + 1) a z deep)) := by
  have H := Lib.hid h
  have hrl := h.lt
  have hXB := h.heap (Below.heap_alloc w (.cells #[.int .i64 0, .int .i64 0, .string ⟨#[]⟩, .slice none 0 0] 27) r hrl)
  obtain ⟨c0, c1, c2, c3, f1, f2, f3⟩ := hXB.c
  clear h hXB
  obtain ⟨N, hN⟩ : ∃ N, N = w.heap.size := ⟨_, rfl⟩
  have HRN : Hid (r ≠ N) := Lib.hid (by omega)
  have HRL := Lib.hid hrl
  have HX0 := Lib.hid (H.out.heap (Below.heap_alloc w (.cells #[.int .i64 0, .int .i64 0, .string ⟨#[]⟩, .slice none 0 0] 27) r hrl))
  have HNZ := heap_alloc_new w (.cells #[.int .i64 0, .int .i64 0, .string ⟨#[]⟩, .slice none 0 0] 27)
  rw [← hN] at HNZ
  have HNZ : Hid ((w.alloc (.cells #[.int .i64 0, .int .i64 0, .string ⟨#[]⟩, .slice none 0 0] 27)).heap[N]? = some zc27) := Lib.hid HNZ
  have HKA : Hid (KB r w (w.alloc (.cells #[.int .i64 0, .int .i64 0, .string ⟨#[]⟩, .slice none 0 0] 27))) := Lib.hid ((KB.refl r w).alloc _)
  have HN := Lib.hid hN
  clear hN hrl
  have HPK := Lib.hid (fun (q : Nat) (w' : World) (h : RX r s q bad 0 w') (hq : q ≤ s.size) => peek_any r s q bad 0 w' h hq hs)
  have HPa := Lib.hid (HPK.out a)
  have hlt : a < s.size := pkI_lt ha (by omega)
  rw [h1] at HPa
  clear h1
  have b64 : ((deep : Int) == 64) = false := by simp; omega
  have hdd : (deep : Int) < 64 := by omega
  obtain ⟨i0, hi, hz0, hz1, hz2⟩ := info_parts info24
  have HZ1 := Lib.hid hz1
  have HZ2 := Lib.hid hz2
  have HZ0 := Lib.hid hz0
  have HI0 := Lib.hid hi
  clear hi hz0 hz1 hz2
  have HI := Lib.hid hI
  clear hI
  obtain ⟨T, hT⟩ : ∃ T : RR, T = listX s (k + 1) a z deep := ⟨_, rfl⟩
  rw [← hT]
  have hT2 : T = if pkI s (a + 1) = 93 then .ok (.list [], a + 2, z) else elemsX s k (a + 1) z deep [] := by rw [hT, listX, if_neg h64]
  have HT := Lib.hid hT2
  clear hT hT2 h64
  go_enter Tryz.func42, Tryz.ntmps42
  go_wp2_with fail
  have hN := HN.out
  simp only [← hN]
  clear hN
  generalize (w.alloc (.cells #[.int .i64 0, .int .i64 0, .string ⟨#[]⟩, .slice none 0 0] 27)) = W0 at HX0 HNZ HKA ⊢
  clear c0 c1 c2 c3 f1 f2 f3
  refine (HPa.out _ HX0.out ha).mono ?_
  rintro e w1 ⟨rfl, m, rfl⟩
  have HX1 : Hid (RX r s a bad 0 (W0.drewN m)) := Lib.hid (HX0.out.heap rfl)
  have HK1 := Lib.hid (HKA.out.trans (KB.drewN m))
  have HN1 : Hid ((W0.drewN m).heap[N]? = some zc27) := HNZ
  generalize (W0.drewN m) = W1 at HX1 HK1 HN1 ⊢
  obtain ⟨d0, d1, d2, d3, g1, g2, g3⟩ := HX1.out.c
  go_wp2_with fail
  have hX2 := HX1.out.to (a + 1)
  have e1 : ((a + 1 : Nat) : Int) = (a : Int) + 1 := by omega
  rw [e1] at hX2
  clear e1
  obtain ⟨M, hM⟩ : ∃ M, M = W1.heap.size := ⟨_, rfl⟩
  have hsz1 : (W1.setCell ⟨r, 1, none⟩ (.int .i64 ((a : Int) + 1))).heap.size = M := by rw [hM]; simp [World.setCell]
  have hNM : N < M := by rw [hM]; exact (Array.getElem?_eq_some_iff.1 HN1.out).1
  have hrM : r < M := by rw [hM]; exact HX1.out.lt
  have HX2 := Lib.hid (hX2.heap (Below.heap_alloc _ (lc27 (.slice none 0 0)) r hX2.lt))
  have HK2 := Lib.hid ((HK1.out.trans (KB.set 1 (.int .i64 ((a : Int) + 1)))).alloc (lc27 (.slice none 0 0)))
  have HN2 : Hid (((W1.setCell ⟨r, 1, none⟩ (.int .i64 ((a : Int) + 1))).alloc (lc27 (.slice none 0 0))).heap[N]? = some zc27) := Lib.hid ((Below.heap_alloc _ _ N (by rw [hsz1]; exact hNM)).trans ((heap_set_ne _ (fun e => HRN.out e.symm)).trans HN1.out))
  have hM2 := heap_alloc_new (W1.setCell ⟨r, 1, none⟩ (.int .i64 ((a : Int) + 1))) (lc27 (.slice none 0 0))
  rw [hsz1] at hM2
  have HM2 := Lib.hid hM2
  have HS2 : Hid (M + 1 ≤ ((W1.setCell ⟨r, 1, none⟩ (.int .i64 ((a : Int) + 1))).alloc (lc27 (.slice none 0 0))).heap.size) := Lib.hid (by simp [hsz1])
  simp only [← hM]
  have hrM' : r ≠ M := by omega
  have HRM := Lib.hid hrM'
  have HRMl := Lib.hid hrM
  have HNM := Lib.hid hNM
  clear hX2 hM hsz1 hM2 hrM hrM' hNM d0 d1 d2 d3 g1 g2 g3
  have hNwM : w.heap.size ≤ M := by have := HN.out; have := HNM.out; omega
  have HNWM := Lib.hid hNwM
  clear hNwM
  have HPb := Lib.hid (HPK.out (a + 1))
  have HAT : Hid (0 ≤ pkI s (a + 1) ∧ pkI s (a + 1) ≤ 256) := Lib.hid (pkI_bd s (a + 1))
  have HA1 : Hid (pkI s (a + 1) = 93 → a + 1 < s.size) := Lib.hid (fun h => pkI_lt (by omega) (by omega))
  generalize pkI s (a + 1) = pk1 at HPb HT HAT HA1
  generalize ((W1.setCell ⟨r, 1, none⟩ (.int .i64 ((a : Int) + 1))).alloc (lc27 (.slice none 0 0))) = W2 at HX2 HK2 HN2 HM2 HS2 ⊢
  refine (HPb.out _ HX2.out (by omega)).mono ?_
  rintro e w1 ⟨rfl, m2, rfl⟩
  have HX3 : Hid (RX r s (a + 1) bad 0 (W2.drewN m2)) := Lib.hid (HX2.out.heap rfl)
  have HK3 := Lib.hid (HK2.out.trans (KB.drewN m2))
  have HN3 : Hid ((W2.drewN m2).heap[N]? = some zc27) := HN2
  have HM3 : Hid ((W2.drewN m2).heap[M]? = some (lc27 (.slice none 0 0))) := HM2
  have HS3 : Hid (M + 1 ≤ (W2.drewN m2).heap.size) := HS2
  generalize (W2.drewN m2) = W3 at HX3 HK3 HN3 HM3 HS3 ⊢
  clear HX2 HK2 HN2 HM2 HS2
  obtain ⟨d0, d1, d2, d3, g1, g2, g3⟩ := HX3.out.c
  by_cases h93 : pk1 = 93
  · have HTT := HT.out
    rw [if_pos h93] at HTT
    subst h93
    subst HTT
    obtain ⟨⟨y0, fy0⟩, ⟨y1, fy1⟩, ⟨y2, fy2⟩, ⟨y3, fy3⟩⟩ := list_cells HM3.out
    obtain ⟨⟨q0, fz0⟩, ⟨q1, fz1⟩, ⟨q2, fz2⟩, ⟨q3, fz3⟩⟩ := zero_cells HN3.out
    have hX4 := HX3.out.to (a + 2)
    have e1 : ((a + 2 : Nat) : Int) = (a : Int) + 1 + 1 := by omega
    rw [e1] at hX4
    have HX4 := Lib.hid hX4
    have HK4 := Lib.hid (HK3.out.trans (KB.set 1 (.int .i64 ((a : Int) + 1 + 1))))
    rw [show ((a + 1 : Nat) : Int) = (a : Int) + 1 from by omega] at d1
    have nr := HRN.out
    have nM := HRM.out
    clear hX4 e1
    go_wp2_with fail
    refine bodyPost_ret (v := .agg #[.int .i64 5, .int .i64 0, .string ⟨#[]⟩, .slice none 0 0]) (by simp [results, Tryz.results42, go_sem, q0, q1, q2, q3]) rfl ?_
    show RvP _ _ _ _ _ _ _
    have hNs := HN.out
    exact ⟨[.int .i64 5, .int .i64 0, .string ⟨#[]⟩, .slice none 0 0], [], rfl, ⟨by decide, by simp [plainsOf], none, 0, rfl, .inl ⟨rfl, rfl⟩⟩, by simp, HX4.out.set4 HRN.out _ _ _ _, HK4.out.set4 (by omega) _ _ _ _⟩
  · have HTT := HT.out
    rw [if_neg h93] at HTT
    have HT := Lib.hid HTT
    have b93 : (pk1 == 93) = false := by simpa using h93
    clear HTT h93 HAT HA1
    go_wp2_with fail
    clear d0 d1 d2 d3 g1 g2 g3
    go_loopw [] (fun wr => Hid (wr.heap[N]? = some zc27) ∧ Hid (KB r w wr) ∧ Hid (M + 1 ≤ wr.heap.size) ∧
      ((∃ (q p y : Nat) (acc : List VT) (la : Option Addr) (lc : Nat) (xs : List Value) (bs : List Nat), q ≤ k ∧ p ≤ s.size ∧ y ≤ p ∧ acc.length ≤ p ∧ 3 * (s.size - p) + 4 ≤ q ∧ Hid (wr.heap[M]? = some (lc27 (.slice la acc.length lc))) ∧ Hid (wr.ownsRow (M + 1) 27 4 (.slice la acc.length lc) acc.length xs) ∧ Hid (HasPs wr (plainsOf acc) xs bs) ∧ Hid (∀ g ∈ bs, M + 1 ≤ g ∧ (Value.slice la acc.length lc).ownBlock ≠ some g) ∧ Hid (RX r s p bad 0 wr) ∧ Hid (elemsX s q p y deep acc = T)) ∨
       (∃ (p0 p : Nat) (c : Int) (la : Option Addr) (ln lc : Nat), Hid (wr.heap[M]? = some (lc27 (.slice la ln lc))) ∧ Hid (RX r s p0 p c wr) ∧ (c == 0) = false ∧ Hid (T = .error (p, c)))))
      (fun wr => rxM s.size r wr)
    case atStart => exact ⟨HN3, HK3, HS3, .inl ⟨k, a + 1, z, [], none, 0, [], [], by omega, by omega, by omega, by simp, by omega, HM3, Lib.hid ⟨rfl, .inl ⟨rfl, rfl⟩⟩, Lib.hid ⟨rfl, rfl⟩, Lib.hid (by simp), HX3, Lib.hid HT.out.symm⟩⟩
    case round =>
      obtain ⟨hnz, hkb, hsz, hrel⟩ := hrel
      rcases hrel with ⟨q, p, y, acc, la, lc, xs, bs, hqk, hp, hy, hacc, hq, hm, how, hhas, hbs, hrd, heq⟩ | ⟨p0, p, c, la, ln, lc, hm, hrd, hc, heq⟩
      · obtain ⟨q, rfl⟩ : ∃ j, q = j + 1 := ⟨q - 1, by omega⟩
        obtain ⟨d0, d1, d2, d3, g1, g2, g3⟩ := hrd.out.c
        have hdI : (deep : Int) + 1 = ((deep + 1 : Nat) : Int) := by omega
        have HDI := Lib.hid hdI
        clear hdI
        go_wp2_with fail
        rw [show (Value.int IntKind.i64 ((deep : Int) + 1)) = .int .i64 ((deep + 1 : Nat) : Int) from by rw [HDI.out]]
        refine (HI.out q (by omega) p y (deep + 1) wr hrd.out hp hy (by omega) (by omega)).mono ?_
        intro e w2 hqq
        obtain ⟨k2, n2, s2, la2, ln2, lc2, rfl⟩ := rv_form hqq
        have hkv := rv_kb hqq
        have HQQ := Lib.hid hqq
        have HKV := Lib.hid hkv
        have HM2 : Hid (w2.heap[M]? = some (lc27 (.slice la acc.length lc))) := Lib.hid ((hkv.block M (by have := hsz.out; omega) (by have := HRM.out; simp; omega)).trans hm.out)
        have HN2 : Hid (w2.heap[N]? = some zc27) := Lib.hid ((hkv.block N (by have := hsz.out; have := HNM.out; omega) (by have := HRN.out; simp; omega)).trans hnz.out)
        have HOW : Hid (w2.ownsRow (M + 1) 27 4 (.slice la acc.length lc) acc.length xs) := ownsRow_keep how.out (fun g hg => hkv.block g (how.out.lt g hg).2 (by have h1 := (how.out.lt g hg).1; have h2 := HRMl.out; simp; omega))
        have HS2 : Hid (M + 1 ≤ w2.heap.size) := Lib.hid (Nat.le_trans hsz.out hkv.size)
        clear hqq hkv d0 d1 d2 d3 g1 g2 g3
        have hMa : (w2.alloc (.cells #[.int .i64 k2, .int .i64 n2, .string s2, .slice la2 ln2 lc2] 27)).heap[M]? = some (lc27 (.slice la acc.length lc)) := (Below.heap_alloc _ _ M (by have := HS2.out; omega)).trans HM2.out
        obtain ⟨_, _, _, ⟨y3, fy3⟩⟩ := list_cells hMa
        clear hMa
        go_wp2_with (at_builtin; refine wpList_append_own_at _ rfl _ _ 25 rfl (M + 1) 27 i0 _ 4 56 Tryz.underlying25 HI0.out HZ0.out HZ1.out HZ2.out rfl (by decide) _ _ _ rfl ((HOW.out.alloc _).alloc _) ⟨w2.heap.size + 1, 0, none⟩ 1 1 [.int .i64 k2, .int .i64 n2, .string s2, .slice la2 ln2 lc2] rfl rfl ?c1 ?c2 ?c3 ?c4 ?c5 ?_)
        case c1 =>
          have h1 := four_new (w2.alloc (.cells #[.int .i64 k2, .int .i64 n2, .string s2, .slice la2 ln2 lc2] 27)) (.int .i64 k2) (.int .i64 n2) (.string s2) (.slice la2 ln2 lc2) 27
          rw [show (w2.alloc (.cells #[.int .i64 k2, .int .i64 n2, .string s2, .slice la2 ln2 lc2] 27)).heap.size = w2.heap.size + 1 from by simp] at h1
          exact h1
        case c2 => intro u hu; simp at hu; rcases hu with rfl | rfl | rfl | rfl <;> rfl
        case c3 => unfold maxLen; omega
        case c4 => omega
        case c5 => have := HS2.out; simp; omega
        intro lv' w3 hown3 hgrow _ hblk
        obtain ⟨la', lc', rfl⟩ := own_slice hown3
        have hs3 := hgrow.size
        simp at hs3
        have hlo : ∀ b, (Value.slice la acc.length lc).ownBlock = some b → M + 1 ≤ b ∧ b < wr.heap.size := fun b hb => how.out.lt b hb
        have hold : ∀ b, b < w2.heap.size → (Value.slice la acc.length lc).ownBlock ≠ some b → w3.heap[b]? = w2.heap[b]? := fun b hb hn =>
          ((hgrow.block b (by simp; omega) (fun e => hn e.symm)).trans (Below.heap_alloc _ _ _ (by simp; omega))).trans (Below.heap_alloc _ _ _ hb)
        have hM1 := HS2.out
        have hM3 : w3.heap[M]? = some (lc27 (.slice la acc.length lc)) := (hold M (by omega) (fun e => by have := (hlo _ e).1; omega)).trans HM2.out
        have hN3 : w3.heap[N]? = some zc27 := (hold N (by have := HNM.out; omega) (fun e => by have := (hlo _ e).1; have := HNM.out; omega)).trans HN2.out
        have hrr : w3.heap[r]? = w2.heap[r]? := hold r (by have := HRMl.out; omega) (fun e => by have := (hlo _ e).1; have := HRMl.out; omega)
        have hK3 : KB r w w3 := by
          have h1 := hkb.out.trans HKV.out
          have h2 := HNWM.out
          refine ⟨hgrow.os.trans h1.os, hgrow.tape.trans h1.tape, hgrow.output.trans h1.output, by have := h1.size; omega, fun g hg hgr => ?_⟩
          rw [hold g (by have := h1.size; omega) (fun e => by have h3 := (hlo _ e).1; omega)]
          exact h1.block g hg hgr
        have HM4 : Hid ((w3.setCell ⟨M, 3, none⟩ (.slice la' (acc.length + 1) lc')).heap[M]? = some (lc27 (.slice la' (acc.length + 1) lc'))) := Lib.hid (lc27_set hM3 _)
        have HN4 : Hid ((w3.setCell ⟨M, 3, none⟩ (.slice la' (acc.length + 1) lc')).heap[N]? = some zc27) := Lib.hid ((heap_set_ne _ (by have := HNM.out; omega)).trans hN3)
        have HK4 : Hid (KB r w (w3.setCell ⟨M, 3, none⟩ (.slice la' (acc.length + 1) lc'))) := Lib.hid (hK3.setNew HNWM.out 3 _)
        have HS4 : Hid (M + 1 ≤ (w3.setCell ⟨M, 3, none⟩ (.slice la' (acc.length + 1) lc')).heap.size) := Lib.hid (by simp [World.setCell]; omega)
        have HRR4 : Hid ((w3.setCell ⟨M, 3, none⟩ (.slice la' (acc.length + 1) lc')).heap[r]? = w2.heap[r]?) := Lib.hid ((heap_set_ne _ HRM.out).trans hrr)
        have HO4 : Hid ((w3.setCell ⟨M, 3, none⟩ (.slice la' (acc.length + 1) lc')).ownsRow (M + 1) 27 4 (.slice la' (acc.length + 1) lc') (acc.length + 1) (xs ++ [.int .i64 k2, .int .i64 n2, .string s2, .slice la2 ln2 lc2])) := Lib.hid (ownsRow_keep hown3 (fun g hg => heap_set_ne _ (by have := (hown3.lt g hg).1; omega)))
        have HOLD : Hid (∀ b, M + 1 ≤ b → b < w2.heap.size → (Value.slice la acc.length lc).ownBlock ≠ some b → (w3.setCell ⟨M, 3, none⟩ (.slice la' (acc.length + 1) lc')).heap[b]? = w2.heap[b]?) := Lib.hid (fun b h0 hb hn => (heap_set_ne _ (by omega)).trans (hold b hb hn))
        have HBLK := Lib.hid hblk
        obtain ⟨_, _, _, ⟨_, fM3⟩⟩ := list_cells hM3
        have HLO := Lib.hid hlo
        clear hgrow hown3 hblk hold hlo hM1 hM3 hN3 hrr hK3 hs3
        cases hx : valX s q p y (deep + 1) with
        | error pc =>
          obtain ⟨p', c⟩ := pc
          have hqq := HQQ.out
          rw [hx] at hqq
          obtain ⟨_, ⟨p0, hxx⟩, hc, _⟩ : RvP r s bad wr (.error (p', c)) _ w2 := hqq
          have HX4 := Lib.hid (hxx.heap HRR4.out)
          have HE : Hid (T = .error (p', c)) := Lib.hid (by rw [← heq.out, elemsX, hx])
          clear hxx hx
          obtain ⟨d0, d1, d2, d3, g1, g2, g3⟩ := HX4.out.c
          go_wp2_with fail
          go_roundw
          case rel => exact ⟨HN4, HK4, HS4, .inr ⟨p0, p', c, _, _, _, HM4, HX4, hc, HE⟩⟩
          case measure => rw [rxM_err _ HX4.out hc, rxM_ok _ hrd.out]; omega
        | ok taz =>
          obtain ⟨t, p', y'⟩ := taz
          obtain ⟨hb0, hb1, hb2⟩ := valX_bd hp hy hx
          have hqq := HQQ.out
          rw [hx] at hqq
          obtain ⟨cs, cb, hcs, hh, hge, hxx, _⟩ : RvP r s bad wr (.ok (t, p', y')) _ w2 := hqq
          have hcs : [.int .i64 k2, .int .i64 n2, .string s2, .slice la2 ln2 lc2] = cs := by
            have h1 := Ending.returned.inj hcs
            have h2 := Value.agg.inj h1
            have h3 := congrArg Array.toList h2
            simpa using h3
          subst hcs
          have HX4 := Lib.hid (hxx.heap HRR4.out)
          have hE : T = if pkI s p' = 93 then .ok (.list (acc ++ [t]), p' + 1, y') else match wordR s.data.toList [44, 32] p' with
            | .error e0 => .error (e0, 5)
            | .ok a'' => elemsX s q a'' y' deep (acc ++ [t]) := by rw [← heq.out, elemsX, hx]; rfl
          have HE := Lib.hid hE
          have HH4 : Hid (HasPs (w3.setCell ⟨M, 3, none⟩ (.slice la' (acc.length + 1) lc')) (plainsOf (acc ++ [t])) (xs ++ [.int .i64 k2, .int .i64 n2, .string s2, .slice la2 ln2 lc2]) (bs ++ cb)) := by
            rw [plainsOf_app]
            refine HasPs.snoc _ _ _ _ _ _ (HasPs.keep _ _ _ (fun b hb => ?_) hhas.out) (HasP.keep _ _ _ (fun b hb => ?_) hh)
            · have h5 := hbs.out b hb
              have h6 := HasPs.lt _ _ _ hhas.out b hb
              rw [HOLD.out b h5.1 (by have := HKV.out.size; omega) h5.2]
              exact HKV.out.block b h6 (by have := HRMl.out; simp; omega)
            · have h5 := hge b hb
              have h6 := HasP.lt _ _ _ hh b hb
              exact HOLD.out b (by have := hsz.out; omega) h6 (fun e => by have := (HLO.out b e).2; omega)
          have HB4 : Hid (∀ g ∈ bs ++ cb, M + 1 ≤ g ∧ (Value.slice la' (acc.length + 1) lc').ownBlock ≠ some g) := Lib.hid (fun b hb => by
            rcases List.mem_append.1 hb with hb | hb
            · have h5 := hbs.out b hb
              have h6 := HasPs.lt _ _ _ hhas.out b hb
              refine ⟨h5.1, fun e => ?_⟩
              rcases HBLK.out with h7 | h7
              · exact h5.2 (h7.symm.trans e)
              · rw [h7] at e; simp at e; have := HKV.out.size; omega
            · have h5 := hge b hb
              have h6 := HasP.lt _ _ _ hh b hb
              refine ⟨by have := hsz.out; omega, fun e => ?_⟩
              rcases HBLK.out with h7 | h7
              · have := (HLO.out b (h7.symm.trans e)).2; omega
              · rw [h7] at e; simp at e; omega)
          have HLEN : Hid ((acc ++ [t]).length = acc.length + 1) := Lib.hid (by simp)
          clear hxx hx hE hh hge hcs heq
          obtain ⟨d0, d1, d2, d3, g1, g2, g3⟩ := HX4.out.c
          go_wp2_with fail
          generalize (w3.setCell ⟨M, 3, none⟩ (.slice la' (acc.length + 1) lc')) = W4 at HX4 HM4 HN4 HK4 HS4 HO4 HH4 ⊢
          clear HOLD HRR4 HQQ HKV HM2 HN2 HOW HS2 HBLK HLO
          have HPp := Lib.hid (HPK.out p')
          have HWD := Lib.hid (fun (w' : World) (h : RX r s p' bad 0 w') => rword_any r s p' bad ⟨#[44, 32]⟩ w' h hb1 hs (by decide))
          generalize pkI s p' = pk' at HPp HE
          refine (HPp.out _ HX4.out hb1).mono ?_
          rintro e w1 ⟨rfl, m4, rfl⟩
          have HX5 : Hid (RX r s p' bad 0 (W4.drewN m4)) := Lib.hid (HX4.out.heap rfl)
          have HK5 := Lib.hid (HK4.out.trans (KB.drewN m4))
          have HN5 : Hid ((W4.drewN m4).heap[N]? = some zc27) := HN4
          have HM5 : Hid ((W4.drewN m4).heap[M]? = some (lc27 (.slice la' (acc.length + 1) lc'))) := HM4
          have HS5 : Hid (M + 1 ≤ (W4.drewN m4).heap.size) := HS4
          have HO5 : Hid ((W4.drewN m4).ownsRow (M + 1) 27 4 (.slice la' (acc.length + 1) lc') (acc.length + 1) (xs ++ [.int .i64 k2, .int .i64 n2, .string s2, .slice la2 ln2 lc2])) := Lib.hid (ownsRow_keep HO4.out (fun _ _ => rfl))
          have HH5 : Hid (HasPs (W4.drewN m4) (plainsOf (acc ++ [t])) (xs ++ [.int .i64 k2, .int .i64 n2, .string s2, .slice la2 ln2 lc2]) (bs ++ cb)) := Lib.hid (HasPs.keep (w := W4) (w' := W4.drewN m4) _ _ _ (fun g _ => show (W4.drewN m4).heap[g]? = W4.heap[g]? from rfl) HH4.out)
          generalize (W4.drewN m4) = W5 at HX5 HK5 HN5 HM5 HS5 HO5 HH5 ⊢
          clear HX4 HM4 HN4 HK4 HS4 HO4 HH4 d0 d1 d2 d3 g1 g2 g3
          obtain ⟨d0, d1, d2, d3, g1, g2, g3⟩ := HX5.out.c
          by_cases h93 : pk' = 93
          · have hE := HE.out
            rw [if_pos h93] at hE
            subst h93
            subst hE
            obtain ⟨⟨y0, fy0⟩, ⟨y1, fy1⟩, ⟨y2, fy2⟩, ⟨y3', fy3'⟩⟩ := list_cells HM5.out
            obtain ⟨⟨q0, fz0⟩, ⟨q1, fz1⟩, ⟨q2, fz2⟩, ⟨q3, fz3⟩⟩ := zero_cells HN5.out
            have hX6 := HX5.out.to (p' + 1)
            have e1 : ((p' + 1 : Nat) : Int) = (p' : Int) + 1 := by omega
            rw [e1] at hX6
            have HX6 := Lib.hid hX6
            have HK6 := Lib.hid (HK5.out.trans (KB.set 1 (.int .i64 ((p' : Int) + 1))))
            have nr := HRN.out
            have nM := HRM.out
            have HKP : Hid (∀ b, M + 1 ≤ b → ∀ x0 x1 x2 x3, (((((W5.setCell ⟨r, 1, none⟩ (.int .i64 ((p' : Int) + 1))).setCell ⟨N, 0, none⟩ x0).setCell ⟨N, 1, none⟩ x1).setCell ⟨N, 2, none⟩ x2).setCell ⟨N, 3, none⟩ x3).heap[b]? = W5.heap[b]?) := Lib.hid (fun b hb x0 x1 x2 x3 => (set4_ne (by have := HNM.out; omega) _ _ _ _).trans (heap_set_ne _ (by have := HRMl.out; omega)))
            clear hX6 e1
            go_wp2_with fail
            refine bodyPost_ret (v := .agg #[.int .i64 5, .int .i64 0, .string ⟨#[]⟩, .slice la' (acc.length + 1) lc']) (by simp [results, Tryz.results42, go_sem, q0, q1, q2, q3]) rfl ?_
            show RvP _ _ _ _ _ _ _
            have hNs := HN.out
            have how5 : W5.ownsRow (M + 1) 27 4 (.slice la' (plainsOf (acc ++ [t])).length lc') (plainsOf (acc ++ [t])).length (xs ++ [.int .i64 k2, .int .i64 n2, .string s2, .slice la2 ln2 lc2]) := by
              rw [plainsOf_len, HLEN.out]; exact HO5.out
            have hll : (plainsOf (acc ++ [t])).length ≤ 4398046511104 := by rw [plainsOf_len, HLEN.out]; omega
            obtain ⟨bs', h1, h2⟩ := hasP_of (k := 5) (n := 0) (s := ⟨#[]⟩) (by decide) hll (ownsRow_keep how5 (fun b hb => HKP.out b (how5.lt b hb).1 _ _ _ _)) (HasPs.keep _ _ _ (fun b hb => HKP.out b (HB4.out b hb).1 _ _ _ _) HH5.out)
            rw [plainsOf_len, HLEN.out] at h1
            refine ⟨_, bs', rfl, h1, fun b hb => ?_, HX6.out.set4 HRN.out _ _ _ _, HK6.out.set4 (by omega) _ _ _ _⟩
            rcases h2 b hb with h3 | h3
            · have := (HB4.out b h3).1; have := HNWM.out; omega
            · have := (how5.lt b h3).1; have := HNWM.out; omega
          · have hE := HE.out
            rw [if_neg h93] at hE
            have HE := Lib.hid hE
            have b93' : (pk' == 93) = false := by simpa using h93
            clear h93 hE
            go_wp2_with fail
            refine (HWD.out _ HX5.out).mono ?_
            rintro e w6 ⟨rfl, hw⟩
            have hw : WdX r s bad W5 (wordR s.data.toList [44, 32] p') w6 := hw
            have hkw := wd_kb hw
            have HK6 := Lib.hid (HK5.out.trans hkw)
            have HN6 : Hid (w6.heap[N]? = some zc27) := Lib.hid ((hkw.block N (by have := HS5.out; have := HNM.out; omega) (by have := HRN.out; simp; omega)).trans HN5.out)
            have HM6 : Hid (w6.heap[M]? = some (lc27 (.slice la' (acc.length + 1) lc'))) := Lib.hid ((hkw.block M (by have := HS5.out; omega) (by have := HRM.out; simp; omega)).trans HM5.out)
            have HS6 : Hid (M + 1 ≤ w6.heap.size) := Lib.hid (Nat.le_trans HS5.out hkw.size)
            have HO6 : Hid (w6.ownsRow (M + 1) 27 4 (.slice la' (acc.length + 1) lc') (acc.length + 1) (xs ++ [.int .i64 k2, .int .i64 n2, .string s2, .slice la2 ln2 lc2])) := Lib.hid (ownsRow_keep HO5.out (fun g hg => hkw.block g (HO5.out.lt g hg).2 (by have h1 := (HO5.out.lt g hg).1; have h2 := HRMl.out; simp; omega)))
            have HH6 : Hid (HasPs w6 (plainsOf (acc ++ [t])) (xs ++ [.int .i64 k2, .int .i64 n2, .string s2, .slice la2 ln2 lc2]) (bs ++ cb)) := Lib.hid (HasPs.keep _ _ _ (fun g hg => hkw.block g (HasPs.lt _ _ _ HH5.out g hg) (by have h1 := (HB4.out g hg).1; have h2 := HRMl.out; simp; omega)) HH5.out)
            clear hkw d0 d1 d2 d3 g1 g2 g3
            cases hwr : wordR s.data.toList [44, 32] p' with
            | error e0 =>
              have hE := HE.out
              rw [hwr] at hw hE
              obtain ⟨hx6, _⟩ := hw
              have HX6 := Lib.hid hx6
              have HE6 := Lib.hid hE
              clear hwr hE hx6
              go_wp2_with fail
              go_roundw
              case rel => exact ⟨HN6, HK6, HS6, .inr ⟨e0, e0, 5, _, _, _, HM6, HX6, rfl, HE6⟩⟩
              case measure => rw [rxM_err _ HX6.out rfl, rxM_ok _ hrd.out]; omega
            | ok a'' =>
              have hE := HE.out
              have hwb := wordR_bd [44, 32] p' a'' (by simpa using hb1) hwr
              simp at hwb
              obtain ⟨hwb1, hwb2⟩ := hwb
              rw [hwr] at hw hE
              obtain ⟨hx6, _⟩ := hw
              have HX6 := Lib.hid hx6
              have HE6 := Lib.hid hE
              have HWB := Lib.hid hwb1
              clear hwr hE hx6 hwb1
              go_wp2_with fail
              go_roundw
              case rel =>
                have hwb1 := HWB.out
                exact ⟨HN6, HK6, HS6, .inl ⟨q, a'', y', acc ++ [t], la', lc', xs ++ [.int .i64 k2, .int .i64 n2, .string s2, .slice la2 ln2 lc2], bs ++ cb, by omega, by omega, by omega, by rw [HLEN.out]; omega, by omega, by rw [HLEN.out]; exact HM6, by rw [HLEN.out]; exact HO6, HH6, by rw [HLEN.out]; exact HB4, HX6, Lib.hid HE6.out.symm⟩⟩
              case measure =>
                have hwb1 := HWB.out
                rw [rxM_ok _ HX6.out, rxM_ok _ hrd.out]; omega
      · obtain ⟨d0, d1, d2, d3, g1, g2, g3⟩ := hrd.out.c
        obtain ⟨⟨y0, fy0⟩, ⟨y1, fy1⟩, ⟨y2, fy2⟩, ⟨y3, fy3⟩⟩ := list_cells hm.out
        obtain ⟨⟨q0, fz0⟩, ⟨q1, fz1⟩, ⟨q2, fz2⟩, ⟨q3, fz3⟩⟩ := zero_cells hnz.out
        go_wp2_with fail
        refine bodyPost_ret (v := .agg #[.int .i64 5, .int .i64 0, .string ⟨#[]⟩, .slice la ln lc]) (by simp [results, Tryz.results42, go_sem, q0, q1, q2, q3]) rfl ?_
        show RvP _ _ _ _ _ _ _
        rw [heq.out]
        have hNs := HN.out
        exact ⟨⟨_, _, _, _, _, _, rfl⟩, ⟨p0, hrd.out.set4 HRN.out _ _ _ _⟩, hc, hkb.out.set4 (by omega) _ _ _ _⟩
end

section
open Go.RowKit
/-! '==' and '!=' between interface values. -/
@[go_sem] theorem eq58_one (w : World) : (binOp .eql 32 (.iface 37 (.int .i64 1)) (.iface 37 (.int .i64 1))).run Tryz.prog w = .ok (.bool true) w := by kernel_rfl
@[go_sem] theorem eq63_yes (w : World) : (binOp .eql 32 (.iface 48 (.bool true)) (.iface 48 (.bool true))).run Tryz.prog w = .ok (.bool true) w := by kernel_rfl
@[go_sem] theorem eqnil_nil (w : World) : (binOp .eql 32 .nilIface .nilIface).run Tryz.prog w = .ok (.bool true) w := by kernel_rfl
@[go_sem] theorem eqnil_if (t : TypeId) (v : Value) (w : World) : (binOp .eql 32 (.iface t v) .nilIface).run Tryz.prog w = .ok (.bool false) w := by kernel_rfl
@[go_sem] theorem eq58_58 (m n : Int) (w : World) : (binOp .eql 32 (.iface 37 (.int .i64 m)) (.iface 37 (.int .i64 n))).run Tryz.prog w = .ok (.bool (m == n)) w := by kernel_rfl
@[go_sem] theorem neq58_58 (m n : Int) (w : World) : (binOp .neq 32 (.iface 37 (.int .i64 m)) (.iface 37 (.int .i64 n))).run Tryz.prog w = .ok (.bool (!(m == n))) w := by kernel_rfl
end

section
open Go.RowKit
set_option maxRecDepth 100000
/-- A slice of plain values. -/
def SlP (w : World) (l : List PT) (v : Value) : Prop := l.length ≤ 4398046511104 ∧ ∃ la lc, v = .slice la l.length lc ∧ (l ≠ [] → ∃ b' o', la = some ⟨b', o', none⟩ ∧ InPs w b' o' l)
theorem SlP.below {w w' : World} (hb : Below w.heap.size w w') {l : List PT} {v : Value} (h : SlP w l v) : SlP w' l v := by
  obtain ⟨h2, la, lc, rfl, h4⟩ := h
  refine ⟨h2, la, lc, rfl, fun hl => ?_⟩
  obtain ⟨b', o', e, hin⟩ := h4 hl
  exact ⟨b', o', e, InPs.below hb _ _ _ hin⟩
theorem SlP.arg {w : World} {l : List PT} {la : Option Addr} {ln lc : Nat} (h : SlP w l (.slice la ln lc)) : ArgP w (.mk 5 0 ⟨#[]⟩ l) (.agg #[.int .i64 5, .int .i64 0, .string ⟨#[]⟩, .slice la ln lc]) := by
  obtain ⟨h2, la', lc', e, h4⟩ := h
  simp only [Value.slice.injEq] at e
  obtain ⟨rfl, rfl, rfl⟩ := e
  exact ⟨by decide, h2, la, lc, rfl, h4⟩
def allMay (l : List PT) : Bool := l.all mayP
theorem allMay_take {l : List PT} {i : Nat} (h : i < l.length) (ha : allMay (l.take i) = true) (hm : mayP l[i] = true) : allMay (l.take (i + 1)) = true := by
  unfold allMay at *
  rw [List.take_succ_eq_append_getElem h, List.all_append, ha]
  simp [hm]
theorem allMay_no {l : List PT} {i : Nat} (h : i < l.length) (hm : mayP l[i] = false) : allMay l = false := by
  unfold allMay
  rw [List.all_eq_false]
  exact ⟨l[i], List.getElem_mem h, by simp [hm]⟩
def JoinR (l : List PT) (w : World) (e : Ending) (w' : World) : Prop :=
  (allMay l = false → NilE w 1 e w') ∧ (allMay l = true → mayP (.mk 5 0 ⟨#[]⟩ l) = false → NilE w 2 e w') ∧ (mayP (.mk 5 0 ⟨#[]⟩ l) = true → NewE w (valOf (.mk 5 0 ⟨#[]⟩ l)) 0 e w')
theorem may_all {l : List PT} (h : mayP (.mk 5 0 ⟨#[]⟩ l) = true) : allMay l = true := by
  unfold allMay
  rw [List.all_eq_true]
  exact (list_size l h).2.2
set_option maxHeartbeats 4000000 in
theorem join_any (l : List PT) (w : World) (v : Value) (hv : SlP w l v) : Calls Tryz.prog 25 #[v] w (JoinR l w) := by
  have g := hv
  obtain ⟨hln, la, lc, rfl, hla⟩ := g
  have HV := Lib.hid hv
  have HA := Lib.hid hla
  clear hv hla
  go_enter Tryz.func25, Tryz.ntmps25
  go_wp2_with fail
  go_loopw [9] (fun iv wr => ∃ (i : Nat), i ≤ l.length ∧ iv = .int .i64 i ∧ Hid (Below w.heap.size w wr) ∧ Hid (allMay (l.take i) = true))
    (fun i _ => l.length - (intOf i).toNat)
  case atStart => exact ⟨0, by omega, rfl, Lib.hid (Below.refl _ _), Lib.hid rfl⟩
  case round =>
    obtain ⟨i, hi, rfl, hB, hall⟩ := hrel
    by_cases hlt : i < l.length
    · obtain ⟨b', o', rfl, hin⟩ := HA.out (by intro h; subst h; simp at hlt)
      have hp := InPs.get l b' o' i hlt (InPs.below hB.out _ _ _ hin)
      rw [Nat.mul_comm] at hp
      obtain ⟨k1, n1, s1, la1, lc1, l1, e1, ⟨x0, x1, x2, x3⟩, ha1⟩ := arg_of_in hp
      have HX := Lib.hid ha1
      clear hp hin ha1 e1
      go_wp2_with fail
      refine (may_any l[i] _ _ (HX.out.below (alloc_below _ _))).mono ?_
      rintro e w1 ⟨rfl, hb1⟩
      have HB1 := Lib.hid ((hB.out.alloc hB.out.size _).trans (hb1.mono (by have := hB.out.size; simp; omega)))
      clear hb1
      cases hm : mayP l[i]
      · have HN := Lib.hid (allMay_no hlt hm)
        clear hm
        go_wp2_with fail
        go_ret2
        exact ⟨fun _ => ⟨rfl, HB1.out⟩, fun h => by rw [HN.out] at h; simp at h, fun h => by have := may_all h; rw [HN.out] at this; simp at this⟩
      · have HN := Lib.hid (allMay_take hlt hall.out hm)
        clear hm
        go_wp2_with fail
        go_roundw
        case rel => exact ⟨i + 1, by omega, by go_num, HB1, HN⟩
        case measure => simp [intOf]; omega
    · obtain rfl : i = l.length := by omega
      have HAL := Lib.hid (show allMay l = true by have := hall.out; rwa [List.take_length] at this)
      have HW := Lib.hid (HV.out.below hB.out).arg
      have hc0 : CellsP (wr.alloc (.cells #[.int .i64 5, .int .i64 0, .string ⟨#[]⟩, .slice la l.length lc] 27)) wr.heap.size 0 5 0 ⟨#[]⟩ la l.length lc := cells_new wr _ _ _ _ _
      have HC := Lib.hid hc0
      clear hc0
      go_wp2_with fail
      refine (may_any _ _ _ (HW.out.below (alloc_below _ _))).mono ?_
      rintro e w1 ⟨rfl, hb1⟩
      have HB1 := Lib.hid ((hB.out.alloc hB.out.size _).trans (hb1.mono (by have := hB.out.size; simp; omega)))
      have H1 := Lib.hid (arg_box HW.out ((alloc_below wr _).trans (hb1.mono (by simp))) (HC.out.below hb1))
      clear hb1
      cases hm : mayP (.mk 5 0 ⟨#[]⟩ l)
      · have HM := Lib.hid hm
        clear hm
        go_wp2_with fail
        go_ret2
        exact ⟨fun h => by rw [HAL.out] at h; simp at h, fun _ _ => ⟨rfl, HB1.out⟩, fun h => by rw [HM.out] at h; simp at h⟩
      · have HM := Lib.hid hm
        clear hm
        go_wp2_with fail
        refine (value_any _ _ _ _ H1.out).mono ?_
        rintro e w2 ⟨x, bs, rfl, hx, hnd, hge, hb2⟩
        have HX := Lib.hid hx
        have HN := Lib.hid hnd
        have HG := Lib.hid hge
        clear hx hnd hge
        go_wp2_with fail
        go_ret2
        exact ⟨fun h => by rw [HAL.out] at h; simp at h, fun _ h => by rw [HM.out] at h; simp at h, fun _ => ⟨_, bs, rfl, HX.out, HN.out, fun g hg => Nat.le_trans HB1.out.size (HG.out g hg), HB1.out.trans (hb2.mono HB1.out.size)⟩⟩
end

section
open Go.RowKit
set_option maxRecDepth 100000
def zeroP : Value := .agg #[.int .i64 0, .int .i64 0, .string ⟨#[]⟩, .slice none 0 0]
def RJoinR (l : List PT) (w : World) (e : Ending) (w' : World) : Prop :=
  (allMay l = false → e = .returned (.tuple #[zeroP, .int .i64 1]) ∧ Below w.heap.size w w') ∧ (allMay l = true → mayP (.mk 5 0 ⟨#[]⟩ l) = false → e = .returned (.tuple #[zeroP, .int .i64 2]) ∧ Below w.heap.size w w') ∧
  (mayP (.mk 5 0 ⟨#[]⟩ l) = true → ∃ cs bs, e = .returned (.tuple #[.agg cs.toArray, .int .i64 0]) ∧ HasP w' (.mk 5 0 ⟨#[]⟩ l) cs bs ∧ Below w.heap.size w w')
theorem set4b {w wr : World} {R : Nat} (hB : Below R w wr) (hR : R ≤ w.heap.size) (a b c d : Value) : Below R w ((((wr.setCell ⟨R, 0, none⟩ a).setCell ⟨R, 1, none⟩ b).setCell ⟨R, 2, none⟩ c).setCell ⟨R, 3, none⟩ d) := by
  have h0 : ∀ x (y : World), Below R w y → ∀ j, Below R w (y.setCell ⟨R, j, none⟩ x) := fun x y h j => Below.setCell (p := ⟨R, j, none⟩) h (Nat.le_refl _) x
  exact h0 _ _ (h0 _ _ (h0 _ _ (h0 _ _ hB 0) 1) 2) 3
set_option maxHeartbeats 4000000 in
theorem rjoin_any (l : List PT) (w : World) (v : Value) (hv : SlP w l v) : Calls Tryz.prog 26 #[v] w (RJoinR l w) := by
  have g := hv
  obtain ⟨hln, la, lc, rfl, hla⟩ := g
  have HV := Lib.hid hv
  have HA := Lib.hid hla
  clear hv hla
  go_enter Tryz.func26, Tryz.ntmps26
  go_wp2_with fail
  have hz := heap_alloc_new w (.cells #[.int .i64 0, .int .i64 0, .string ⟨#[]⟩, .slice none 0 0] 27)
  have hB0 := alloc_below w (.cells #[.int .i64 0, .int .i64 0, .string ⟨#[]⟩, .slice none 0 0] 27)
  have hs0 : (w.alloc (.cells #[.int .i64 0, .int .i64 0, .string ⟨#[]⟩, .slice none 0 0] 27)).heap.size = w.heap.size + 1 := by simp
  generalize (w.alloc (.cells #[.int .i64 0, .int .i64 0, .string ⟨#[]⟩, .slice none 0 0] 27)) = W at hz hB0 hs0 ⊢
  obtain ⟨R, hR⟩ : ∃ R, R = w.heap.size := ⟨_, rfl⟩
  simp only [← hR] at hz hs0 ⊢
  have HRR := Lib.hid hR
  have HZ := Lib.hid hz
  have HB0 := Lib.hid hB0
  have HS0 := Lib.hid hs0
  clear hR hz hB0 hs0
  go_loopw [4] (fun iv wr => ∃ (i : Nat), i ≤ l.length ∧ iv = .int .i64 i ∧ Hid (Below w.heap.size w wr) ∧ Hid (wr.heap[R]? = some (.cells #[.int .i64 0, .int .i64 0, .string ⟨#[]⟩, .slice none 0 0] 27 (0, 0))) ∧ Hid (allMay (l.take i) = true))
    (fun i _ => l.length - (intOf i).toNat)
  case atStart => exact ⟨0, by omega, rfl, HB0, HZ, Lib.hid rfl⟩
  case round =>
    obtain ⟨i, hi, rfl, hB, hZ, hall⟩ := hrel
    by_cases hlt : i < l.length
    · obtain ⟨b', o', rfl, hin⟩ := HA.out (by intro h; subst h; simp at hlt)
      have hp := InPs.get l b' o' i hlt (InPs.below hB.out _ _ _ hin)
      rw [Nat.mul_comm] at hp
      obtain ⟨k1, n1, s1, la1, lc1, l1, e1, ⟨x0, x1, x2, x3⟩, ha1⟩ := arg_of_in hp
      have HX := Lib.hid ha1
      clear hp hin ha1 e1
      go_wp2_with fail
      refine (rmay_any l[i] _ _ HX.out).mono ?_
      rintro e w1 ⟨rfl, hb1⟩
      have HB1 := Lib.hid (hB.out.trans (hb1.mono hB.out.size))
      have HZ1 : Hid (w1.heap[R]? = some (.cells #[.int .i64 0, .int .i64 0, .string ⟨#[]⟩, .slice none 0 0] 27 (0, 0))) := Lib.hid ((hb1.block R (Array.getElem?_eq_some_iff.1 hZ.out).1).trans hZ.out)
      clear hb1
      cases hm : mayP l[i]
      · have HN := Lib.hid (allMay_no hlt hm)
        clear hm
        obtain ⟨p0, f0⟩ := heapcell HZ1.out 0
        obtain ⟨p1, f1⟩ := heapcell HZ1.out 1
        obtain ⟨p2, f2⟩ := heapcell HZ1.out 2
        obtain ⟨p3, f3⟩ := heapcell HZ1.out 3
        go_wp2_with fail
        refine bodyPost_ret (v := .tuple #[zeroP, .int .i64 1]) (by simp [results, Tryz.results26, go_sem, p0, p1, p2, p3, zeroP]) rfl ?_
        have hR := HRR.out
        subst hR
        exact ⟨fun _ => ⟨rfl, set4b HB1.out (Nat.le_refl _) _ _ _ _⟩, fun h => by rw [HN.out] at h; simp at h, fun h => by have := may_all h; rw [HN.out] at this; simp at this⟩
      · have HN := Lib.hid (allMay_take hlt hall.out hm)
        clear hm
        go_wp2_with fail
        go_roundw
        case rel => exact ⟨i + 1, by omega, by go_num, HB1, HZ1, HN⟩
        case measure => simp [intOf]; omega
    · obtain rfl : i = l.length := by omega
      have HAL := Lib.hid (show allMay l = true by have := hall.out; rwa [List.take_length] at this)
      have HW := Lib.hid (HV.out.below hB.out).arg
      have hc0 : CellsP (wr.alloc (.cells #[.int .i64 5, .int .i64 0, .string ⟨#[]⟩, .slice la l.length lc] 27)) wr.heap.size 0 5 0 ⟨#[]⟩ la l.length lc := cells_new wr _ _ _ _ _
      have hz1 := Below.heap_alloc wr (.cells #[.int .i64 5, .int .i64 0, .string ⟨#[]⟩, .slice la l.length lc] 27) R (Array.getElem?_eq_some_iff.1 hZ.out).1
      have HZ1 := Lib.hid (hz1.trans hZ.out)
      have HC := Lib.hid hc0
      clear hc0 hz1
      have hB1 := (alloc_below wr (.cells #[.int .i64 5, .int .i64 0, .string ⟨#[]⟩, .slice la l.length lc] 27))
      have HB1 := Lib.hid (hB.out.trans (hB1.mono hB.out.size))
      have HW1 := Lib.hid (HW.out.below hB1)
      clear hB1
      go_wp2_with fail
      generalize (wr.alloc (.cells #[.int .i64 5, .int .i64 0, .string ⟨#[]⟩, .slice la l.length lc] 27)) = W1 at HC HZ1 HB1 HW1 ⊢
      refine (rmay_any _ _ _ HW1.out).mono ?_
      rintro e w1 ⟨rfl, hb1⟩
      have HB2 := Lib.hid (HB1.out.trans (hb1.mono HB1.out.size))
      have HZ2 : Hid (w1.heap[R]? = some (.cells #[.int .i64 0, .int .i64 0, .string ⟨#[]⟩, .slice none 0 0] 27 (0, 0))) := Lib.hid ((hb1.block R (Array.getElem?_eq_some_iff.1 HZ1.out).1).trans HZ1.out)
      have HC2 := Lib.hid (HC.out.below hb1)
      have HW2 := Lib.hid (HW1.out.below hb1)
      clear hb1
      cases hm : mayP (.mk 5 0 ⟨#[]⟩ l)
      · have HM := Lib.hid hm
        clear hm
        obtain ⟨p0, f0⟩ := heapcell HZ2.out 0
        obtain ⟨p1, f1⟩ := heapcell HZ2.out 1
        obtain ⟨p2, f2⟩ := heapcell HZ2.out 2
        obtain ⟨p3, f3⟩ := heapcell HZ2.out 3
        go_wp2_with fail
        refine bodyPost_ret (v := .tuple #[zeroP, .int .i64 2]) (by simp [results, Tryz.results26, go_sem, p0, p1, p2, p3, zeroP]) rfl ?_
        have hR := HRR.out
        subst hR
        exact ⟨fun h => by rw [HAL.out] at h; simp at h, fun _ _ => ⟨rfl, set4b HB2.out (Nat.le_refl _) _ _ _ _⟩, fun h => by rw [HM.out] at h; simp at h⟩
      · have HM := Lib.hid hm
        have HSH := Lib.hid (may_short _ 65536 0 (by omega) hm)
        clear hm
        have hcc := HC2.out
        obtain ⟨c0, c1, c2, c3⟩ := hcc
        go_wp2_with fail
        clear c0 c1 c2 c3
        refine (copy_any _ _ _ HW2.out HSH.out).mono ?_
        rintro e w2 ⟨cs, bs, rfl, hh, hge, hb2⟩
        obtain ⟨k2, n2, s2, la2, ln2, lc2, rfl⟩ := hh.form
        have HH := Lib.hid hh
        have HGE := Lib.hid hge
        have HB3 := Lib.hid (HB2.out.trans (hb2.mono HB2.out.size))
        have HZ3 : Hid (w2.heap[R]? = some (.cells #[.int .i64 0, .int .i64 0, .string ⟨#[]⟩, .slice none 0 0] 27 (0, 0))) := Lib.hid ((hb2.block R (Array.getElem?_eq_some_iff.1 HZ2.out).1).trans HZ2.out)
        clear hh hge hb2
        obtain ⟨p0, f0⟩ := heapcell HZ3.out 0
        obtain ⟨p1, f1⟩ := heapcell HZ3.out 1
        obtain ⟨p2, f2⟩ := heapcell HZ3.out 2
        obtain ⟨p3, f3⟩ := heapcell HZ3.out 3
        go_wp2_with fail
        refine bodyPost_ret (v := .tuple #[.agg #[.int .i64 k2, .int .i64 n2, .string s2, .slice la2 ln2 lc2], .int .i64 0]) (by simp [results, Tryz.results26, go_sem, p0, p1, p2, p3]) rfl ?_
        have hR := HRR.out
        subst hR
        refine ⟨fun h => by rw [HAL.out] at h; simp at h, fun _ h => by rw [HM.out] at h; simp at h, fun _ => ⟨_, bs, rfl, HasP.keep _ _ _ (fun b hb => ?_) HH.out, set4b HB3.out (Nat.le_refl _) _ _ _ _⟩⟩
        have h1 := HGE.out b hb
        have h2 := (Array.getElem?_eq_some_iff.1 HZ2.out).1
        rw [heap_set_ne _ (by omega), heap_set_ne _ (by omega), heap_set_ne _ (by omega), heap_set_ne _ (by omega)]
end

section
open Go.RowKit
set_option maxRecDepth 100000
theorem rxval_all (r : Nat) (s : ByteArray) (bad : Int) (hs : s.size ≤ 1048576) : ∀ k, RvFor r s bad k := by
  intro k
  induction k using Nat.strongRecOn with
  | _ k ih =>
    cases k with
    | zero => intro a z deep w _ _ _ hk; omega
    | succ k =>
      intro a z deep w h ha hz hk hd
      rw [valX]
      by_cases h1 : pkI s a = 117
      · rw [if_pos h1]; exact rxv_unit r s a z deep bad w h ha hs hd h1
      · rw [if_neg h1]
        by_cases h2 : pkI s a = 121
        · rw [if_pos h2]; exact rxv_yes r s a z deep bad w h ha hs hd h2
        · rw [if_neg h2]
          by_cases h3 : pkI s a = 110
          · rw [if_pos h3]; exact rxv_no r s a z deep bad w h ha hs hd h3
          · rw [if_neg h3]
            by_cases h4 : pkI s a = 45 ∨ (48 ≤ pkI s a ∧ pkI s a ≤ 57)
            · rw [if_pos h4]
              rcases h4 with h4 | h4
              · exact rxv_minus r s a z deep bad w h ha hs hd h4
              · exact rxv_digit r s a z deep bad w h ha hs hd h4
            · rw [if_neg h4]
              by_cases h5 : pkI s a = 34
              · rw [if_pos h5]; exact rxv_text r s a z deep bad w h ha hs hd h5
              · rw [if_neg h5]
                by_cases h6 : pkI s a = 91
                · rw [if_pos h6]
                  have hlt : a < s.size := pkI_lt ha (by omega)
                  obtain ⟨k, rfl⟩ : ∃ j, k = j + 1 := ⟨k - 1, by omega⟩
                  by_cases h64 : deep = 64
                  · rw [listX, if_pos h64]
                    exact rxv_deep r s a (z + 1) deep bad w h ha hs hd h6 h64
                  · exact rxv_list r s a (z + 1) deep bad w h ha hs hd k (fun j hj => ih j (by omega)) (by omega) (by omega) h6 h64
                · rw [if_neg h6]
                  exact rxv_bad r s a z deep bad w h ha hs hd h1 h2 h3 (by omega) (by omega) h5 h6
set_option maxHeartbeats 2000000 in
theorem refread_long (s : ByteArray) (w : World) (hs : 1048576 < s.size) (hm : s.size ≤ 9223372036854775807) : Calls Tryz.prog 24 #[.string s] w fun e w' => e = .returned (.tuple #[zeroP, .int .i64 0, .int .i64 2]) ∧ Below w.heap.size w w' := by
  have h1 : (1048576 : Int) < (s.size : Int) := by omega
  have hz := heap_alloc_new w (.cells #[.int .i64 0, .int .i64 0, .string ⟨#[]⟩, .slice none 0 0] 27)
  have hB0 := alloc_below w (.cells #[.int .i64 0, .int .i64 0, .string ⟨#[]⟩, .slice none 0 0] 27)
  obtain ⟨⟨q0, k0⟩, ⟨q1, k1⟩, ⟨q2, k2⟩, ⟨q3, k3⟩⟩ := zero_cells hz
  have HB0 := Lib.hid hB0
  clear hz hB0
  go_enter Tryz.func24, Tryz.ntmps24
  go_wp2_with fail
  refine bodyPost_ret (v := .tuple #[zeroP, .int .i64 0, .int .i64 2]) (by simp [results, Tryz.results24, go_sem, q0, q1, q2, q3, zeroP]) rfl ?_
  exact ⟨rfl, HB0.out⟩
/-- What the reference's Read leaves. -/
def RdX (w : World) : Except (Nat × Int) VT → Ending → World → Prop
  | .error (p, c), e, w' => e = .returned (.tuple #[zeroP, .int .i64 p, .int .i64 c]) ∧ Below w.heap.size w w'
  | .ok t, e, w' => ∃ cs bs, e = .returned (.tuple #[.agg cs.toArray, .int .i64 0, .int .i64 0]) ∧ HasP w' (plainOf t) cs bs ∧ Below w.heap.size w w'
def RdXQ (w : World) (x : Except (Nat × Int) VT) (e : Ending) (w' : World) : Prop := RdX w x e w'
/-- What was read may be, just where it is not too great. -/
theorem valR_may {s : ByteArray} {k : Nat} {t : VT} {a' z' : Nat} (h : valR s k 0 0 0 = .ok (t, a', z')) : mayP (plainOf t) = decide (z' ≤ 65536) := by
  obtain ⟨h1, h2, h3, h4⟩ := val_bwd k 0 0 0 t a' z' (by omega) h
  by_cases hz : z' ≤ 65536
  · rw [may_of_plain (by omega) (by omega)]; simp [hz]
  · cases hm : mayP (plainOf t)
    · simp [hz]
    · have := (may_size hm).1
      rw [val_plain] at this
      omega
theorem set4b' {w wr : World} {R : Nat} (hB : Below w.heap.size w wr) (hR : w.heap.size ≤ R) (a b c d : Value) : Below w.heap.size w ((((wr.setCell ⟨R, 0, none⟩ a).setCell ⟨R, 1, none⟩ b).setCell ⟨R, 2, none⟩ c).setCell ⟨R, 3, none⟩ d) := by
  have h0 : ∀ x (y : World), Below w.heap.size w y → ∀ j, Below w.heap.size w (y.setCell ⟨R, j, none⟩ x) := fun x y h j => Below.setCell (p := ⟨R, j, none⟩) h hR x
  exact h0 _ _ (h0 _ _ (h0 _ _ (h0 _ _ hB 0) 1) 2) 3
theorem below_of_kb {r : Nat} {w W w' : World} (hb : Below w.heap.size w W) (hr : w.heap.size ≤ r) (hk : KB r W w') : Below w.heap.size w w' := hb.trans (hk.below hr hb.size)
set_option maxHeartbeats 4000000 in
theorem refread_short (s : ByteArray) (w : World) (hs : s.size ≤ 1048576) : Calls Tryz.prog 24 #[.string s] w (RdXQ w (readR s)) := by
  rw [← readX_eq]
  have h1 : ¬ ((1048576 : Int) < (s.size : Int)) := by omega
  obtain ⟨N, hN⟩ : ∃ N, N = w.heap.size := ⟨_, rfl⟩
  have hz := heap_alloc_new w (.cells #[.int .i64 0, .int .i64 0, .string ⟨#[]⟩, .slice none 0 0] 27)
  have hx := heap_alloc_new (w.alloc (.cells #[.int .i64 0, .int .i64 0, .string ⟨#[]⟩, .slice none 0 0] 27)) (.cells #[.string s, .int .i64 0, .int .i64 0, .int .i64 0] 85)
  have e1 : (w.alloc (.cells #[.int .i64 0, .int .i64 0, .string ⟨#[]⟩, .slice none 0 0] 27)).heap.size = N + 1 := by simp [hN]
  rw [e1] at hx
  rw [← hN] at hz
  have hz2 := (Below.heap_alloc (w.alloc (.cells #[.int .i64 0, .int .i64 0, .string ⟨#[]⟩, .slice none 0 0] 27)) (.cells #[.string s, .int .i64 0, .int .i64 0, .int .i64 0] 85) N (by omega)).trans hz
  have hB0 := (alloc_below w (.cells #[.int .i64 0, .int .i64 0, .string ⟨#[]⟩, .slice none 0 0] 27)).alloc (by simp) (.cells #[.string s, .int .i64 0, .int .i64 0, .int .i64 0] 85)
  have hsz : ((w.alloc (.cells #[.int .i64 0, .int .i64 0, .string ⟨#[]⟩, .slice none 0 0] 27)).alloc (.cells #[.string s, .int .i64 0, .int .i64 0, .int .i64 0] 85)).heap.size = N + 2 := by simp [hN]
  have HZ := Lib.hid hz2
  have HX : Hid (RX (N + 1) s 0 0 0 ((w.alloc (.cells #[.int .i64 0, .int .i64 0, .string ⟨#[]⟩, .slice none 0 0] 27)).alloc (.cells #[.string s, .int .i64 0, .int .i64 0, .int .i64 0] 85))) := Lib.hid hx
  have HB0 := Lib.hid hB0
  have HSZ := Lib.hid hsz
  have HN := Lib.hid hN
  obtain ⟨T, hT⟩ : ∃ T, T = readX s := ⟨_, rfl⟩
  rw [← hT]
  have HT := Lib.hid hT
  clear hz hx e1 hz2 hB0 hsz hN hT
  go_enter Tryz.func24, Tryz.ntmps24
  go_wp2_with fail
  have hN := HN.out
  simp only [← hN]
  clear hN
  generalize ((w.alloc (.cells #[.int .i64 0, .int .i64 0, .string ⟨#[]⟩, .slice none 0 0] 27)).alloc (.cells #[.string s, .int .i64 0, .int .i64 0, .int .i64 0] 85)) = W at HZ HX HB0 HSZ ⊢
  have hcall := rxval_all (N + 1) s 0 hs (3 * s.size + 3) 0 0 0 W HX.out (by omega) (by omega) (by omega) (by omega)
  refine hcall.mono ?_
  intro e w2 hq
  obtain ⟨k2, n2, s2, la2, ln2, lc2, rfl⟩ := rv_form hq
  have hkv := rv_kb hq
  have HQQ := Lib.hid hq
  have HKV := Lib.hid hkv
  have hw2 : N + 2 ≤ w2.heap.size := by have := hkv.size; have := HSZ.out; omega
  have hzz : w2.heap[N]? = some zc27 := (hkv.block N (by have := HSZ.out; omega) (by simp)).trans HZ.out
  have hz3 := (Below.heap_alloc w2 (.cells #[.int .i64 k2, .int .i64 n2, .string s2, .slice la2 ln2 lc2] 27) N (by omega)).trans hzz
  have hB2 : Below w.heap.size w (w2.alloc (.cells #[.int .i64 k2, .int .i64 n2, .string s2, .slice la2 ln2 lc2] 27)) := (below_of_kb HB0.out (by have := HN.out; omega) hkv).alloc (by have := HN.out; omega) _
  have HZ3 := Lib.hid hz3
  have HB2 := Lib.hid hB2
  have HW2 := Lib.hid hw2
  clear hcall hq hkv hw2 hzz hz3 hB2
  have hp := heap_alloc_new w2 (.cells #[.int .i64 k2, .int .i64 n2, .string s2, .slice la2 ln2 lc2] 27)
  have HP := Lib.hid hp
  clear hp
  obtain ⟨P, hP⟩ : ∃ P, P = w2.heap.size := ⟨_, rfl⟩
  have HPP := Lib.hid hP
  rw [← hP] at HP
  clear hP
  cases hx : valX s (3 * s.size + 3) 0 0 0 with
  | error pc =>
    obtain ⟨p, c⟩ := pc
    have hqq := HQQ.out
    rw [hx] at hqq
    obtain ⟨_, ⟨p0, hxx⟩, hc, _⟩ : RvP (N + 1) s 0 W (.error (p, c)) _ w2 := hqq
    have hTT : T = .error (p, c) := by rw [HT.out, readX, hx]
    subst hTT
    have HX3 := Lib.hid (hxx.heap (Below.heap_alloc w2 (.cells #[.int .i64 k2, .int .i64 n2, .string s2, .slice la2 ln2 lc2] 27) (N + 1) hxx.lt))
    clear hxx hx
    obtain ⟨d0, d1, d2, d3, g1, g2, g3⟩ := HX3.out.c
    have nc : (c != 0) = true := by simpa using hc
    obtain ⟨⟨q0, k0⟩, ⟨q1, k1⟩, ⟨q2, k2'⟩, ⟨q3, k3⟩⟩ := zero_cells HZ3.out
    go_wp2_with fail
    generalize (w2.alloc (.cells #[.int .i64 k2, .int .i64 n2, .string s2, .slice la2 ln2 lc2] 27)) = W3 at HX3 HB2 HZ3 HP d0 d1 d2 d3 g1 g2 g3 q0 q1 q2 q3 k0 k1 k2' k3 ⊢
    have hNr : N ≠ N + 1 := by omega
    have hrN : N + 1 ≠ N := by omega
    clear q0 q1 q2 q3 k0 k1 k2' k3
    obtain ⟨⟨q0, k0⟩, ⟨q1, k1⟩, ⟨q2, k2'⟩, ⟨q3, k3⟩⟩ := zero_cells HZ3.out
    go_region
    go_wp2_with fail
    refine bodyPost_ret (v := .tuple #[zeroP, .int .i64 p, .int .i64 c]) (by simp [results, Tryz.results24, go_sem, q0, q1, q2, q3, zeroP]) rfl ?_
    exact ⟨rfl, (set4b' HB2.out (by have := HN.out; omega) _ _ _ _).drew⟩
  | ok taz =>
    obtain ⟨t, a', z'⟩ := taz
    obtain ⟨hb0, hb1, hb2⟩ := valX_bd (Nat.zero_le _) (Nat.le_refl 0) hx
    have hqq := HQQ.out
    rw [hx] at hqq
    obtain ⟨cs, cb, hcs, hh, hge, hxx, _⟩ : RvP (N + 1) s 0 W (.ok (t, a', z')) _ w2 := hqq
    have hcs : [.int .i64 k2, .int .i64 n2, .string s2, .slice la2 ln2 lc2] = cs := by
      have h1 := Ending.returned.inj hcs
      have h2 := Value.agg.inj h1
      have h3 := congrArg Array.toList h2
      simpa using h3
    subst hcs
    have hTT : T = if a' < s.size then .error (a', 5) else if 65536 < z' then .error (s.size, 2) else .ok t := by rw [HT.out, readX, hx]
    have hvr : valR s (3 * s.size + 3) 0 0 0 = .ok (t, a', z') := by
      rcases valX_at (s := s) (3 * s.size + 3) 0 0 0 with h | ⟨e, t1, z1, h1, _⟩
      · rw [← h]; exact hx
      · rw [h1] at hx; cases hx
    have hmay := valR_may hvr
    have HMAY := Lib.hid hmay
    have HTT := Lib.hid hTT
    have HX3 := Lib.hid (hxx.heap (Below.heap_alloc w2 (.cells #[.int .i64 k2, .int .i64 n2, .string s2, .slice la2 ln2 lc2] 27) (N + 1) hxx.lt))
    have HH3 : Hid (HasP (w2.alloc (.cells #[.int .i64 k2, .int .i64 n2, .string s2, .slice la2 ln2 lc2] 27)) (plainOf t) [.int .i64 k2, .int .i64 n2, .string s2, .slice la2 ln2 lc2] cb) := Lib.hid (HasP.keep _ _ _ (fun g hg => Below.heap_alloc _ _ _ (HasP.lt _ _ _ hh g hg)) hh)
    have HCB : Hid (∀ g ∈ cb, N + 2 ≤ g) := Lib.hid (fun g hg => by have := hge g hg; have := HSZ.out; omega)
    have HA3 := Lib.hid HH3.out.arg
    clear hxx hx hh hge hTT hvr hmay HT
    obtain ⟨d0, d1, d2, d3, g1, g2, g3⟩ := HX3.out.c
    by_cases hlt : a' < s.size
    · have hltI : (a' : Int) < (s.size : Int) := by omega
      have hTT := HTT.out
      rw [if_pos hlt] at hTT
      subst hTT
      clear hlt
      go_wp2_with fail
      generalize (w2.alloc (.cells #[.int .i64 k2, .int .i64 n2, .string s2, .slice la2 ln2 lc2] 27)) = W3 at HX3 HB2 HZ3 HP HH3 HA3 d0 d1 d2 d3 g1 g2 g3 ⊢
      refine (fail_first (N + 1) s a' 0 5 _ _ HX3.out).mono ?_
      rintro e w4 ⟨rfl, hx4, hk4⟩
      have HX4 := Lib.hid hx4
      have HB4 := Lib.hid (below_of_kb HB2.out (by have := HN.out; omega) hk4)
      have HZ4 := Lib.hid ((hk4.block N (Array.getElem?_eq_some_iff.1 HZ3.out).1 (by simp)).trans HZ3.out)
      clear hx4 hk4 d0 d1 d2 d3 g1 g2 g3
      obtain ⟨d0, d1, d2, d3, g1, g2, g3⟩ := HX4.out.c
      have hNr : N ≠ N + 1 := by omega
      have hrN : N + 1 ≠ N := by omega
      go_wp2_with fail
      obtain ⟨⟨q0, k0⟩, ⟨q1, k1⟩, ⟨q2, k2'⟩, ⟨q3, k3⟩⟩ := zero_cells HZ4.out
      go_region
      go_wp2_with fail
      refine bodyPost_ret (v := .tuple #[zeroP, .int .i64 (a' : Nat), .int .i64 5]) (by simp [results, Tryz.results24, go_sem, q0, q1, q2, q3, zeroP]) rfl ?_
      exact ⟨rfl, (set4b' HB4.out (by have := HN.out; omega) _ _ _ _).drew⟩
    · have hltI : ¬ (a' : Int) < (s.size : Int) := by omega
      have hTT := HTT.out
      rw [if_neg hlt] at hTT
      have HTT := Lib.hid hTT
      clear hlt hTT
      obtain ⟨p0, fp0⟩ := heapcell HP.out 0
      obtain ⟨p1, fp1⟩ := heapcell HP.out 1
      obtain ⟨p2, fp2⟩ := heapcell HP.out 2
      obtain ⟨p3, fp3⟩ := heapcell HP.out 3
      have hP := HPP.out
      go_wp2_with fail
      simp only [← hP]
      clear hP
      generalize (w2.alloc (.cells #[.int .i64 k2, .int .i64 n2, .string s2, .slice la2 ln2 lc2] 27)) = W3 at HX3 HB2 HZ3 HP HH3 HA3 d0 d1 d2 d3 g1 g2 g3 p0 p1 p2 p3 fp0 fp1 fp2 fp3 ⊢
      go_wp2_with fail
      refine (rmay_any _ _ _ HA3.out).mono ?_
      rintro e w4 ⟨rfl, hb4⟩
      have HX4 : Hid (RX (N + 1) s a' 0 0 w4) := Lib.hid (HX3.out.heap (hb4.block _ HX3.out.lt))
      have HB4 := Lib.hid (HB2.out.trans (hb4.mono HB2.out.size))
      have HZ4 := Lib.hid ((hb4.block N (Array.getElem?_eq_some_iff.1 HZ3.out).1).trans HZ3.out)
      have HP4 := Lib.hid ((hb4.block P (Array.getElem?_eq_some_iff.1 HP.out).1).trans HP.out)
      have HH4 : Hid (HasP w4 (plainOf t) [.int .i64 k2, .int .i64 n2, .string s2, .slice la2 ln2 lc2] cb) := Lib.hid (HasP.keep _ _ _ (fun g hg => hb4.block g (HasP.lt _ _ _ HH3.out g hg)) HH3.out)
      clear hb4 d0 d1 d2 d3 g1 g2 g3 p0 p1 p2 p3 fp0 fp1 fp2 fp3
      obtain ⟨d0, d1, d2, d3, g1, g2, g3⟩ := HX4.out.c
      rw [HMAY.out]
      by_cases hz : z' ≤ 65536
      · have hTT := HTT.out
        rw [if_neg (by omega)] at hTT
        subst hTT
        rw [decide_eq_true hz]
        obtain ⟨p0, fp0⟩ := heapcell HP4.out 0
        obtain ⟨p1, fp1⟩ := heapcell HP4.out 1
        obtain ⟨p2, fp2⟩ := heapcell HP4.out 2
        obtain ⟨p3, fp3⟩ := heapcell HP4.out 3
        obtain ⟨⟨q0, k0⟩, ⟨q1, k1⟩, ⟨q2, k2'⟩, ⟨q3, k3⟩⟩ := zero_cells HZ4.out
        go_wp2_with fail
        refine bodyPost_ret (v := .tuple #[.agg #[.int .i64 k2, .int .i64 n2, .string s2, .slice la2 ln2 lc2], .int .i64 0, .int .i64 0]) (by simp [results, Tryz.results24, go_sem, q0, q1, q2, q3]) rfl ?_
        exact ⟨_, cb, rfl, HasP.keep _ _ _ (fun g hg => set4_ne (by have := HCB.out g hg; omega) _ _ _ _) HH4.out, set4b' HB4.out (by have := HN.out; omega) _ _ _ _⟩
      · have hTT := HTT.out
        rw [if_pos (by omega)] at hTT
        subst hTT
        rw [decide_eq_false hz]
        clear hz
        go_wp2_with fail
        refine (fail_first (N + 1) s a' 0 2 _ _ HX4.out).mono ?_
        rintro e w5 ⟨rfl, hx5, hk5⟩
        have HX5 := Lib.hid hx5
        have HB5 := Lib.hid (below_of_kb HB4.out (by have := HN.out; omega) hk5)
        have HZ5 := Lib.hid ((hk5.block N (Array.getElem?_eq_some_iff.1 HZ4.out).1 (by simp)).trans HZ4.out)
        clear hx5 hk5 d0 d1 d2 d3 g1 g2 g3
        obtain ⟨d0, d1, d2, d3, g1, g2, g3⟩ := HX5.out.c
        have hNr : N ≠ N + 1 := by omega
        have hrN : N + 1 ≠ N := by omega
        go_wp2_with fail
        obtain ⟨⟨q0, k0⟩, ⟨q1, k1⟩, ⟨q2, k2'⟩, ⟨q3, k3⟩⟩ := zero_cells HZ5.out
        go_region
        go_wp2_with fail
        refine bodyPost_ret (v := .tuple #[zeroP, .int .i64 (s.size : Nat), .int .i64 2]) (by simp [results, Tryz.results24, go_sem, q0, q1, q2, q3, zeroP]) rfl ?_
        exact ⟨rfl, (set4b' HB5.out (by have := HN.out; omega) _ _ _ _).drew⟩
end

section
open Go.RowKit
set_option maxRecDepth 100000
def ch (a b : Int) : Int := if a = 0 then b else a
theorem ch_assoc (a b c : Int) : ch (ch a b) c = ch a (ch b c) := by
  unfold ch
  by_cases h : a = 0
  · rw [if_pos h, if_pos h]
  · rw [if_neg h, if_neg h, if_neg h]
theorem ch_zero (b : Int) : ch 0 b = b := if_pos rfl
theorem ch_right (a : Int) : ch a 0 = a := by unfold ch; split <;> simp_all
theorem ch_of {a : Int} (h : (a == 0) = true) (b : Int) : ch a b = b := if_pos (by simpa using h)
theorem ch_not {a : Int} (h : (a == 0) = false) (b : Int) : ch a b = a := if_neg (by simpa using h)
mutual
def ordP : PT → PT → Int
  | .mk k n s l, .mk k' n' s' l' => ch (ch (ch (ch (ordI k k') (ordI n n')) (ordS s s')) (ordPs l l')) (ordI l.length l'.length)
def ordPs : List PT → List PT → Int
  | p :: r, q :: r' => ch (ordP p q) (ordPs r r')
  | _, _ => 0
end
theorem ordI_succ (a b : Int) : ordI (a + 1) (b + 1) = ordI a b := by
  unfold ordI
  by_cases h : a < b
  · rw [if_pos h, if_pos (by omega)]
  · rw [if_neg h, if_neg (by omega)]
    by_cases h : b < a
    · rw [if_pos h, if_pos (by omega)]
    · rw [if_neg h, if_neg (by omega)]
def kindV (t : VT) : Int := rankV t + 1
theorem plainOf_kind (t : VT) : ∃ n s l, plainOf t = .mk (rankV t + 1) n s l := by
  cases t <;> exact ⟨_, _, _, rfl⟩
theorem ordS_self (s : ByteArray) : ordS s s = 0 := by
  unfold ordS
  have : Op.bytesLess s.toList s.toList = false := by
    generalize s.toList = l
    induction l with
    | nil => rfl
    | cons a r ih => simp [Op.bytesLess, ih]
  rw [if_neg (by simp [this]), if_pos (by simp)]
theorem ordP_rank {t u : VT} (h : rankV t ≠ rankV u) : ordP (plainOf t) (plainOf u) = cmpV t u := by
  rw [cmpV_rank h]
  obtain ⟨n, s, l, e⟩ := plainOf_kind t
  obtain ⟨n', s', l', e'⟩ := plainOf_kind u
  rw [e, e', ordP, ordI_succ]
  have h1 := ordI_ne h
  unfold ch
  rw [if_neg h1, if_neg h1, if_neg h1, if_neg h1]
theorem ordP_flat {t : VT} (ht : rankV t ≠ 4) (u : VT) : ordP (plainOf t) (plainOf u) = cmpV t u := by
  by_cases h : rankV t = rankV u
  · cases t <;> cases u <;> first | (simp only [rankV] at h; exact absurd h (by decide)) | skip
    case unit.unit =>
      simp only [plainOf, ordP, cmpV, ordPs, List.length_nil]
      rw [ordS_self, ordI_self, ordI_self, ordI_self]
      rfl
    case truth.truth a b =>
      simp only [plainOf, ordP, cmpV, ordPs, List.length_nil]
      rw [ordS_self, ordI_self, ordI_self, ch_right, ch_right, ch_right, ch_zero]
      rfl
    case int.int a b =>
      simp only [plainOf, ordP, cmpV, ordPs, List.length_nil]
      rw [ordS_self, ordI_self, ordI_self, ch_right, ch_right, ch_right, ch_zero]
    case text.text a b =>
      simp only [plainOf, ordP, cmpV, ordPs, List.length_nil]
      rw [ordI_self, ordI_self, ordI_self, ch_right, ch_right, ch_zero, ch_zero]
    case list.list a b => exact absurd rfl ht
  · exact ordP_rank h
mutual
/-- The reader's own order of two plain values is the order of their values. -/
theorem ordP_val : ∀ t u : VT, ordP (plainOf t) (plainOf u) = cmpV t u
  | .unit, u => ordP_flat (by simp [rankV]) u
  | .truth _, u => ordP_flat (by simp [rankV]) u
  | .int _, u => ordP_flat (by simp [rankV]) u
  | .text _, u => ordP_flat (by simp [rankV]) u
  | .list a, .list b => by
    have h := ordPs_val a b
    simp only [plainOf, ordP, cmpV]
    rw [ordS_self, ordI_self, ordI_self, ch_right, ch_right, ch_zero]
    exact h
  | .list a, .unit => ordP_rank (by simp [rankV])
  | .list a, .truth _ => ordP_rank (by simp [rankV])
  | .list a, .int _ => ordP_rank (by simp [rankV])
  | .list a, .text _ => ordP_rank (by simp [rankV])
theorem ordPs_val : ∀ a b : List VT, ch (ordPs (plainsOf a) (plainsOf b)) (ordI (plainsOf a).length (plainsOf b).length) = cmpL a b
  | [], [] => rfl
  | [], u :: r' => by
    simp only [plainsOf, ordPs, ch_zero, cmpL, List.length_nil, List.length_cons]
    exact ordI_lt (by omega)
  | t :: r, [] => by
    simp only [plainsOf, ordPs, ch_zero, cmpL, List.length_nil, List.length_cons]
    exact ordI_gt (by omega)
  | t :: r, u :: r' => by
    have h1 := ordP_val t u
    have h2 := ordPs_val r r'
    simp only [plainsOf, ordPs, cmpL, List.length_cons]
    rw [h1, show (((plainsOf r).length + 1 : Nat) : Int) = ((plainsOf r).length : Int) + 1 from by omega, show (((plainsOf r').length + 1 : Nat) : Int) = ((plainsOf r').length : Int) + 1 from by omega, ordI_succ, ch_assoc, h2]
    unfold ch
    by_cases h : cmpV t u = 0
    · rw [if_pos h, if_neg (by simpa using h)]
    · rw [if_neg h, if_pos h]
end
theorem ordP_may {p q : PT} (hp : mayP p = true) (hq : mayP q = true) : ordP p q = cmpV (valOf p) (valOf q) := by
  have h1 := (may_plain p 65536 0 (by omega) (by omega) hp).1
  have h2 := (may_plain q 65536 0 (by omega) (by omega) hq).1
  rw [← ordP_val, h1, h2]
theorem sameP_ord (p q : PT) : sameP p q = (mayP p && (mayP q && (ordP p q == 0))) := by
  unfold sameP
  cases hp : mayP p <;> cases hq : mayP q <;> simp
  rw [ordP_may hp hq]
theorem compP_ord (p q : PT) : compP p q = if mayP p then (if mayP q then ordP p q else -1) else if mayP q then 1 else 0 := by
  unfold compP
  cases hp : mayP p <;> cases hq : mayP q <;> simp
  rw [ordP_may hp hq]
end
end Go.Proofs.YtkpnnhebfaggeaaGreatDoor
