/-
  The book of trees to its end, the lists of names, the book of paths: walks by the kit.
  Conditions: none.
-/
import Derived.Test.YtlpgfdhihimjaaaGreatKitB
import Derived.Deep.Onto
set_option linter.unusedVariables false
set_option linter.unusedSimpArgs false
namespace Go.Proofs.YtlpgfdhihimjaaaGreat
section
open Go.RowKit
set_option maxRecDepth 100000
theorem info25 : (Tryz.prog.info? 25).map (fun i => (i.zero, i.size, i.bytes)) = some (some (.slice none 0 0), 1, 24) := by kernel_rfl
/-- The paths' book. -/
def P2 : BP := { bt := 47, lt := 25, et := 3, kt := 25, es := 1, ks := 1, mark := fun j _ => .int .i64 (-2 * (j : Int) - 2) }
theorem KeepE.step {P : BP} {base B : Nat} {rows : List Rw} {lv nv kv kv1 kv2 : Value} {z : Int} {kn1 kn2 : Nat} {ks1 ks2 : List Value} {w wr W : World} (T : KeepE P base B rows lv nv kv z kn1 ks1 w wr kv1) (hc : BKc P W B lv nv z kv2) (hk : W.ownsRow base P.kt P.ks kv2 kn2 ks2)
    (hkb : KBs (B :: kv1.ownBlock.toList) wr W) (hn : ∀ g, kv2.ownBlock = some g → kv1.ownBlock = some g ∨ wr.heap.size ≤ g) : KeepE P base B rows lv nv kv z kn2 ks2 w W kv2 := by
  refine ⟨T.bk.setk hc hk hkb hn, T.kb.trans hkb (fun g hg => ?_), fun g e => ?_⟩
  · simp at hg
    rcases hg with rfl | h
    · exact .inl (by simp)
    · rcases T.nk g h with h | h
      · exact .inl (by simp [h])
      · exact .inr h
  · rcases hn g e with h | h
    · exact T.nk g h
    · have := T.kb.size
      right; omega
set_option maxHeartbeats 8000000 in
theorem pkeep_any (w : World) (base B A c : Nat) (rows : List Rw) (lv nv kv : Value) (z : Int) (kn : Nat) (ks xs : List Value) (hbk : BK P2 base w B rows lv nv kv z kn ks) (h1 : ∀ u ∈ xs, ∃ la m lc, u = .slice la m lc)
    (hav : ∀ (i : Nat) (u : Value), xs[i]? = some u → w.cell? ⟨A, i * 2 + 1, none⟩ = some u) (hA : A ≠ B ∧ kv.ownBlock ≠ some A) (hkn : kn + xs.length ≤ 100) :
    Calls Tryz.prog 15 #[.pointer (some ⟨B, 0, none⟩), .slice (some ⟨A, 0, none⟩) xs.length c] w fun e w' => e = .returned (.tuple #[]) ∧ ∃ kv', KeepE P2 base B rows lv nv kv z (kn + xs.length) (ks ++ xs) w w' kv' := by
  obtain ⟨i25, hi25, hq0, hq1, hq2⟩ := info_parts info25
  have HQ := Lib.hid (And.intro hi25 (And.intro hq0 (And.intro hq1 hq2)))
  have HB := Lib.hid hbk
  have H1 := Lib.hid h1
  have HAV := Lib.hid hav
  have HA := Lib.hid hA
  clear hi25 hq0 hq1 hq2 hbk h1 hav hA
  go_enter Tryz.func15, Tryz.ntmps15
  go_wp2_with fail
  go_loopw [4] (fun iv wr => ∃ (i : Nat) (kvi : Value), i ≤ xs.length ∧ iv = .int .i64 i ∧ Hid (KeepE P2 base B rows lv nv kv z (kn + i) (ks ++ xs.take i) w wr kvi))
    (fun iv _ => xs.length - (intOf iv).toNat)
  case atStart => exact ⟨0, kv, by omega, rfl, Lib.hid ⟨by simpa using HB.out, KBs.refl _ _, fun g h => .inl h⟩⟩
  case round =>
    obtain ⟨i, kvi, hi, rfl, HT⟩ := hrel
    by_cases hlt : i < xs.length
    · have hltI : (i : Int) < (xs.length : Int) := by omega
      obtain ⟨la, m, lc, hx⟩ := H1.out xs[i] (List.getElem_mem hlt)
      have x00 := HAV.out i _ (List.getElem?_eq_getElem hlt)
      have hAl : A < w.heap.size := World.block_lt_of_cell? _ _ x00
      have x0 : wr.cell? ⟨A, i * 2 + 1, none⟩ = some (.slice la m lc) := by
        rw [cellOf_heap (HT.out.kb.block A hAl (by simp [HA.out.1]; exact HA.out.2)), x00, hx]
      have HX := Lib.hid hx
      obtain ⟨c3, fc3⟩ := heapcell HT.out.bk.c 3
      have hBlt : B < wr.heap.size := (HT.out.bk.lt B (mem_bkB.2 (.inl rfl))).2
      obtain ⟨N, hN⟩ : ∃ N, N = kn + i := ⟨_, rfl⟩
      have HN := Lib.hid hN
      have hNb : N ≤ 99 := by omega
      have HO8 : Hid ((wr.drew).ownsRow base 25 1 kvi N (ks ++ xs.take i)) := Lib.hid (by rw [hN]; exact ownsRow_keep HT.out.bk.k (fun _ _ => rfl))
      have HN1 : Hid (∀ u ∈ [Value.slice la m lc], u.oneCell' = true) := Lib.hid (fun u hu => by simp at hu; subst hu; rfl)
      have HN2 : Hid (N + 1 ≤ maxLen) := Lib.hid (by unfold maxLen; omega)
      have HN3 : Hid ((N + 1) * 24 ≤ 140737488355328) := Lib.hid (by omega)
      have HN4 : Hid (∀ o, base ≤ ((wr.drew).alloc o).heap.size) := Lib.hid (fun o => by
        have := HT.out.bk.hb
        rw [size_da]; omega)
      have HN5 : Hid (∀ o, B < ((wr.drew).alloc o).heap.size) := Lib.hid (fun o => by
        rw [size_da]; omega)
      have HN6 : Hid (∀ o, ((wr.drew).alloc o).heap[B]? = some (.cells #[lv, nv, .int .i64 z, kvi] 47 (0, 0))) := Lib.hid (fun o => (Below.heap_alloc wr.drew _ _ hBlt).trans HT.out.bk.c)
      have HN7 : Hid (some B ≠ kvi.ownBlock) := Lib.hid (fun e => ((nd4 _ _ _ _ _).1 HT.out.bk.nd).2.2.1 B e.symm |>.1 rfl)
      have c3a : (wr.alloc (.cells #[Value.slice la m lc] 25)).cell? ⟨B, 3, none⟩ = some kvi := (heapcell ((Below.heap_alloc wr _ _ hBlt).trans HT.out.bk.c) 3).1
      have HBlt := Lib.hid hBlt
      clear hNb hBlt hN x00 hx hAl
      go_wp2_with fail
      go_region_law ((refine step_append_lies _ (by rfl) _ _ _ (by rfl) base 25 i25 (.slice none 0 0) 1 24 Tryz.underlying45 HQ.out.1 HQ.out.2.1 HQ.out.2.2.1 HQ.out.2.2.2 (by rfl) (by decide) _ _ _ (by rfl) (HO8.out.alloc _) ⟨wr.heap.size, 0, none⟩ 1 1 [.slice la m lc] (by rfl) (by rfl) (one_new _ _ _) HN1.out (by decide) HN2.out HN3.out (HN4.out _) _ rfl ?_; intro g2 cap2 w1 hown1 hgrow1 hat1 hlt1; have hq := (hgrow1.block B (HN5.out _) HN7.out).trans (HN6.out _); obtain ⟨p3, f3⟩ := heapcell hq 3))
      all_goals
        have HAD := Lib.hid (app_done hq hown1 hgrow1 hat1 HN7.out HBlt.out 3 (.slice (some ⟨g2, 0, none⟩) (N + 1) cap2))
        clear hq hown1 hgrow1 hat1
        go_wp2_with fail
        go_roundw
        case rel =>
          have hN := HN.out
          have h10 := HAD.out
          refine ⟨i + 1, .slice (some ⟨g2, 0, none⟩) (N + 1) cap2, by omega, by go_num, Lib.hid (HT.out.step h10.1 ?_ h10.2.2.1 h10.2.2.2)⟩
          rw [List.take_succ_eq_append_getElem hlt, HX.out, ← List.append_assoc, show kn + (i + 1) = N + 1 by omega]
          exact h10.2.1
        case measure => simp [intOf]; omega
    · obtain rfl : i = xs.length := by omega
      have hltI : ¬ ((xs.length : Int) < (xs.length : Int)) := by omega
      go_wp2_with fail
      go_end0
      have := HT.out
      rw [List.take_length] at this
      exact ⟨rfl, kvi, this⟩
end

section
open Go.RowKit
set_option maxRecDepth 100000
/-- A path: its cell, and its row if it has room. -/
def PtOk (w : World) (t : Tr) : Prop := ∃ (la : Option Addr) (m lc : Nat), t.x = [.slice la m lc] ∧ m ≤ 63 ∧ lc ≤ maxLen ∧ ((0 < lc ∧ ∃ g, la = some ⟨g, 0, none⟩ ∧ t.rs = [(g, m, lc)] ∧ RowAt P2 w (g, m, lc)) ∨ (lc = 0 ∧ t.rs = []))
theorem outs_split (ts : List Tr) (i : Nat) (h : i < ts.length) : outs ts = outs (ts.take i) ++ (ts[i].rs ++ outs (ts.drop (i + 1))) := by
  unfold outs
  conv => lhs; rw [← List.take_append_drop i ts, List.flatMap_append, List.drop_eq_getElem_cons h, List.flatMap_cons]
theorem outs_one {ts : List Tr} {i : Nat} (h : i < ts.length) {r : Rw} (hr : ts[i].rs = [r]) : (outs ts)[(outs (ts.take i)).length]? = some r ∧ (outs (ts.take (i + 1))).length = (outs (ts.take i)).length + 1 := by
  refine ⟨?_, by rw [outs_snoc ts i h, List.length_append, hr]; rfl⟩
  rw [outs_split ts i h, List.getElem?_append_right (Nat.le_refl _), hr]
  simp
theorem outs_zero {ts : List Tr} {i : Nat} (h : i < ts.length) (hr : ts[i].rs = []) : outs (ts.take (i + 1)) = outs (ts.take i) := by rw [outs_snoc ts i h, hr, List.append_nil]
theorem TkRel.setz {P : BP} {w wr W8 : World} {base B : Nat} {rows rs : List Rw} {lv nv kv lvi nvi : Value} {z zi z2 : Int} {kn i : Nat} {ks : List Value} (T : TkRel P w base B rows rs lv nv kv kn ks i lvi nvi zi wr) (C : TkCtx P w base B rows rs lv nv kv z kn ks)
    (h8 : BK P base W8 B (rows ++ rs.take i) lvi nvi kv z2 kn ks) (k8 : KBs [B] wr W8) : TkRel P w base B rows rs lv nv kv kn ks i lvi nvi z2 W8 := by
  refine ⟨h8, fun r hr => (T.ra r hr).keep ?_, T.kb.trans k8 (fun g hg => .inl (by simp at hg; simp [hg])), T.nl, T.nn⟩
  have := T.farR C (List.mem_of_mem_drop hr)
  obtain ⟨c, hc, _⟩ := T.ra r hr
  exact k8.block r.1 hc.lt (by simpa using this.2.1)
set_option maxHeartbeats 8000000 in
theorem ptake_any (w : World) (base B A c : Nat) (rows : List Rw) (lv nv kv : Value) (z : Int) (kn : Nat) (ks : List Value) (ts : List Tr)
    (hbk : BK P2 base w B rows lv nv kv z kn ks) (hts : ∀ t ∈ ts, PtOk w t) (hav : ∀ (i : Nat) (h : i < ts.length) v, ts[i].x[0]? = some v → w.cell? ⟨A, i, none⟩ = some v) (hA : A ∉ B :: (lv.ownBlock.toList ++ nv.ownBlock.toList ++ (outs ts).map (·.1))) (hlen : ts.length ≤ 4) (hrl : rows = [])
    (hnd : ((outs ts).map (·.1)).Nodup) (hrb : ∀ r ∈ outs ts, base ≤ r.1 ∧ r.1 ∉ bkB B rows lv nv kv) (hz : z = 0) :
    Calls Tryz.prog 39 #[.pointer (some ⟨B, 0, none⟩), .slice (some ⟨A, 0, none⟩) ts.length c] w fun e w' => e = .returned (.tuple #[]) ∧ ∃ lv' nv' z', TkRel P2 w base B rows (outs ts) lv nv kv kn ks (outs ts).length lv' nv' z' w' := by
  obtain ⟨i25, hi25, hq0, hq1, hq2⟩ := info_parts info25
  obtain ⟨i3, hi3, hp0, hp1, hp2⟩ := info_parts info3
  have HQ := Lib.hid (And.intro hi25 (And.intro hq0 (And.intro hq1 hq2)))
  have HP3 := Lib.hid (And.intro hi3 (And.intro hp0 (And.intro hp1 hp2)))
  clear hi25 hq0 hq1 hq2 hi3 hp0 hp1 hp2
  obtain ⟨rs, hrs⟩ : ∃ rs, rs = outs ts := ⟨_, rfl⟩
  rw [← hrs] at hA hnd hrb ⊢
  have HRS := Lib.hid hrs
  have hle : ∀ l : List Tr, (∀ t ∈ l, PtOk w t) → (outs l).length ≤ l.length := fun l => by
    induction l with
    | nil => intro _; simp [outs]
    | cons t r ih =>
      intro h
      have h1 := ih (fun t ht => h t (List.mem_cons_of_mem _ ht))
      obtain ⟨_, _, _, _, _, _, h2⟩ := h t List.mem_cons_self
      unfold outs at h1 ⊢
      rw [List.flatMap_cons, List.length_append, List.length_cons]
      have h4 : t.rs.length ≤ 1 := by rcases h2 with ⟨_, g, _, h3, _⟩ | ⟨_, h3⟩ <;> rw [h3] <;> simp
      omega
  have hrl4 : rs.length ≤ 4 := by rw [hrs]; exact Nat.le_trans (hle ts hts) hlen
  have HIX : Hid (∀ i, (outs (ts.take i)).length ≤ 4) := Lib.hid (fun i => Nat.le_trans (hle (ts.take i) (fun t ht => hts t (List.mem_of_mem_take ht))) (by rw [List.length_take]; omega))
  have HCX : Hid (TkCtx P2 w base B rows rs lv nv kv z kn ks) := Lib.hid ⟨hbk, hnd, fun r hr => by
    refine ⟨(hrb r hr).1, (hrb r hr).2, ?_⟩
    rw [hrs] at hr
    unfold outs at hr
    obtain ⟨t, ht, hr'⟩ := List.mem_flatMap.1 hr
    obtain ⟨_, _, _, _, _, _, h2⟩ := hts t ht
    rcases h2 with ⟨_, g, _, h3, h4⟩ | ⟨_, h3⟩
    · rw [h3] at hr'
      simp at hr'
      subst hr'
      exact h4
    · rw [h3] at hr'; simp at hr'⟩
  have HTS := Lib.hid hts
  have HAV := Lib.hid hav
  have HA := Lib.hid hA
  have hlb := hbk.lt
  have HZ : Hid (z ≤ 0) := Lib.hid (by omega)
  have HRL : Hid (rows.length = 0) := Lib.hid (by rw [hrl]; rfl)
  have HBlt0 := Lib.hid (hlb B (mem_bkB.2 (.inl rfl))).2
  clear hbk hts hav hnd hrb hz hrs hle hlb hA hrl
  go_enter Tryz.func39, Tryz.ntmps39
  go_wp2_with fail
  go_loopw [4] (fun iv wx => ∃ (i j : Nat) (lvi nvi : Value) (zi : Int), i ≤ ts.length ∧ j = (outs (ts.take i)).length ∧ iv = .int .i64 i ∧ Hid (TkRel P2 w base B rows rs lv nv kv kn ks j lvi nvi zi wx) ∧ Hid (zi ≤ 70067 * (i : Int)))
    (fun iv _ => ts.length - (intOf iv).toNat)
  case atStart => exact ⟨0, 0, lv, nv, z, by omega, by simp [outs], rfl, Lib.hid HCX.out.start, Lib.hid (by have := HZ.out; simpa using this)⟩
  case round =>
    obtain ⟨i, j, lvi, nvi, zi, hi, hj, rfl, HT, HZI⟩ := hrel
    by_cases hlt : i < ts.length
    · have hltI : (i : Int) < (ts.length : Int) := by omega
      obtain ⟨la, m, lc, hx, hm, hmc, hrow⟩ := HTS.out ts[i] (List.getElem_mem hlt)
      have x00 := HAV.out i hlt (.slice la m lc) (by rw [hx]; rfl)
      have hAl : A < w.heap.size := World.block_lt_of_cell? _ _ x00
      have HAK : Hid (wr.heap[A]? = w.heap[A]?) := Lib.hid (HT.out.kb.block A hAl HA.out)
      have x0 : wr.cell? ⟨A, i, none⟩ = some (.slice la m lc) := (cellOf_heap HAK.out).trans x00
      have HF : Hid (A < wr.heap.size ∧ A ≠ B ∧ lvi.ownBlock ≠ some A ∧ nvi.ownBlock ≠ some A) := Lib.hid (by
        have h := HA.out
        simp at h
        have ho := HT.out.otherne hAl h.2.1 h.2.2.1
        exact ⟨World.block_lt_of_cell? _ _ x0, h.1, ho.1, ho.2⟩)
      have HX0 := Lib.hid x0
      obtain ⟨b2, f2⟩ := heapcell HT.out.bk.c 2
      have hzi0 := HT.out.bk.z0
      have hzb := HZI.out
      have hcapI : ((lc : Nat) : Int) ≤ 9223372036854775807 := by unfold maxLen at hmc; omega
      obtain ⟨rm, hrm⟩ : ∃ rm : Int, rm = min (lc : Int) ((m : Int) + 70000) := ⟨_, rfl⟩
      have hrm1 : 0 ≤ rm ∧ rm ≤ 70063 := by omega
      have HRM : ∀ W, Hid (Calls Tryz.prog 36 #[.int .i64 (m : Nat), .int .i64 (lc : Nat)] W fun e w' => e = .returned (.int .i64 rm) ∧ w' = W) := fun W => Lib.hid (by rw [hrm]; exact room_any W _ _ (by omega))
      have hwA : IntKind.i64.wrap (zi + 4) = zi + 4 := by exact IntWalk.i64_in _ (by omega)
      obtain ⟨z2, hz2⟩ : ∃ z2 : Int, z2 = zi + 4 + rm := ⟨_, rfl⟩
      have hwC : IntKind.i64.wrap (zi + 4 + rm) = z2 := by rw [hz2]; exact IntWalk.i64_in _ (by omega)
      have HZ2 : Hid (0 ≤ z2 ∧ z2 ≤ 70067 * ((i + 1 : Nat) : Int)) := Lib.hid (by omega)
      have hz2b : z2 ≤ 280268 := by omega
      have HROW := Lib.hid hrow
      have HM := Lib.hid (And.intro hm hmc)
      have HJ := Lib.hid hj
      clear hcapI hrm hz2 hzb x00 hAl hrow hx hm hmc hj hrm1
      go_upto_region 3 with fail
      go_cut [] from 12 to 31 (fun wx => Hid (BK P2 base wx B (rows ++ rs.take j) lvi nvi kv z2 kn ks ∧ KBs [B] wr wx))
      case first =>
        go_still_tail 18, (by kernel_rfl)
        still_call (HRM _).out
        repeat still_step
        refine wpStill_nil ?_
        change wpList _ _ _ _ _ (World.drew _)
        have h8 : BK P2 base ((World.drew wr).setCell ⟨B, 2, none⟩ (.int .i64 z2)) B (rows ++ rs.take j) lvi nvi kv z2 kn ks :=
          HT.out.bk.setz (heap_setA (show (World.drew wr).heap[B]? = _ from HT.out.bk.c) _) (fun g hg _ => heap_set_ne _ hg) HZ2.out.1
        have hk8 : KBs [B] wr ((World.drew wr).setCell ⟨B, 2, none⟩ (.int .i64 z2)) := (KBs.of_below (bs := [B]) (drew_below wr)).trans (KBs.set B 2 _) (fun _ h => .inl h)
        have H8 := Lib.hid (And.intro h8 hk8)
        clear h8 hk8
        have f2' : (World.drew wr).frozen? ⟨B, 2, none⟩ = false := f2
        go_wp2_with fail
        go_meet
        exact H8
      case rest =>
        have H8 := hcut
        clear b2 f2 hwA hwC x0 HRM
        generalize hW8 : wc = W8 at H8 ⊢
        clear hW8
        obtain ⟨b2, f2⟩ := heapcell H8.out.1.c 2
        have hBlt : B < W8.heap.size := (H8.out.1.lt B (mem_bkB.2 (.inl rfl))).2
        have y0 : W8.cell? ⟨A, i, none⟩ = some (.slice la m lc) := by
          rw [cellOf_heap (H8.out.2.block A HF.out.1 (by simpa using HF.out.2.1)), HX0.out]
        have HY8 := Lib.hid y0
        rcases HROW.out with ⟨hlc, g, rfl, hrr, _⟩ | ⟨rfl, hrr⟩
        · obtain ⟨hget, hlen2⟩ := outs_one hlt hrr
          rw [← HJ.out] at hget hlen2
          rw [← HRS.out] at hget
          have hjl : j < rs.length := (List.getElem?_eq_some_iff.1 hget).1
          have hrj : rs[j] = (g, m, lc) := (List.getElem?_eq_some_iff.1 hget).2
          have HRJ := Lib.hid hrj
          have HLEN2 := Lib.hid hlen2
          have hlcB : ((lc : Int) == 0) = false := by simp; omega
          have hz2B : decide (2097152 < z2) = false := decide_eq_false (by omega)
          have hN4 : rows.length + (rs.take j).length ≤ 4 := by
            have := HRL.out
            rw [List.length_take]; omega
          clear hget hlen2 hrj hrr hlc
          go_upto_region 5 with fail
          clear b2 f2
          obtain ⟨c0, fc0⟩ := heapcell H8.out.1.c 0
          have hNb : (rows ++ rs.take j).length ≤ 4 := by rw [List.length_append]; exact hN4
          obtain ⟨N, hNN⟩ : ∃ N, N = (rows ++ rs.take j).length := ⟨_, rfl⟩
          have HNN := Lib.hid hNN
          rw [← hNN] at hNb
          clear hNN hN4
          have HO8 : Hid ((W8.drew).ownsRow base 25 1 lvi N ((rows ++ rs.take j).map rowV)) := Lib.hid (by rw [HNN.out]; exact ownsRow_keep H8.out.1.l (fun _ _ => rfl))
          have HN1 : Hid (∀ u ∈ [Value.slice (some ⟨g, 0, none⟩) m lc], u.oneCell' = true) := Lib.hid (fun u hu => by simp at hu; subst hu; rfl)
          have HN2 : Hid (N + 1 ≤ maxLen) := Lib.hid (by unfold maxLen; omega)
          have HN3 : Hid ((N + 1) * 24 ≤ 140737488355328) := Lib.hid (by omega)
          have HN4 : Hid (∀ o, base ≤ ((W8.drew).alloc o).heap.size) := Lib.hid (fun o => by
            have := H8.out.1.hb
            rw [size_da]; omega)
          have HN5 : Hid (∀ o, B < ((W8.drew).alloc o).heap.size) := Lib.hid (fun o => by
            rw [size_da]; omega)
          have HN6 : Hid (∀ o, ((W8.drew).alloc o).heap[B]? = some (.cells #[lvi, nvi, .int .i64 z2, kv] 47 (0, 0))) := Lib.hid (fun o => (Below.heap_alloc W8.drew _ _ hBlt).trans H8.out.1.c)
          have HN7 : Hid (some B ≠ lvi.ownBlock) := Lib.hid (fun e => ((nd4 _ _ _ _ _).1 H8.out.1.nd).1 B e.symm |>.1 rfl)
          have c0a : (W8.alloc (.cells #[Value.slice (some ⟨g, 0, none⟩) m lc] 25)).cell? ⟨B, 0, none⟩ = some lvi := (heapcell ((Below.heap_alloc W8 _ _ hBlt).trans H8.out.1.c) 0).1
          have HBlt := Lib.hid hBlt
          have HNb := Lib.hid hNb
          clear hNb hBlt
          go_cut [] from 45 to 57 (fun wx => ∃ lv2, Hid (BKc P2 wx B lv2 nvi z2 kv ∧ wx.ownsRow base 25 1 lv2 (N + 1) ((rows ++ rs.take j).map rowV ++ [rowV rs[j]]) ∧ KBs (B :: lvi.ownBlock.toList) W8 wx ∧ ∀ g, lv2.ownBlock = some g → lvi.ownBlock = some g ∨ W8.heap.size ≤ g))
          case first =>
            go_region_law ((refine step_append_lies _ (by rfl) _ _ _ (by rfl) base 25 i25 (.slice none 0 0) 1 24 Tryz.underlying45 HQ.out.1 HQ.out.2.1 HQ.out.2.2.1 HQ.out.2.2.2 (by rfl) (by decide) _ _ _ (by rfl) (HO8.out.alloc _) ⟨W8.heap.size, 0, none⟩ 1 1 [.slice (some ⟨g, 0, none⟩) m lc] (by rfl) (by rfl) (one_new _ _ _) HN1.out (by decide) HN2.out HN3.out (HN4.out _) _ rfl ?_; intro g2 cap2 w1 hown1 hgrow1 hat1 hlt1; have hq := (hgrow1.block B (HN5.out _) HN7.out).trans (HN6.out _); obtain ⟨p0, f0⟩ := heapcell hq 0))
            all_goals
              have HAD := Lib.hid (app_done hq hown1 hgrow1 hat1 HN7.out HBlt.out 0 (.slice (some ⟨g2, 0, none⟩) (N + 1) cap2))
              clear hq hown1 hgrow1 hat1
              go_wp2_with fail
              go_meet
              refine ⟨_, Lib.hid ⟨HAD.out.1, ?_, HAD.out.2.2.1, HAD.out.2.2.2⟩⟩
              have := HAD.out.2.1
              rw [HRJ.out]; exact this
          case rest =>
            obtain ⟨lv2, H10⟩ := hcut
            clear HO8 HN1 HN2 HN3 HN4 HN5 HN6 c0a c0 fc0 y0
            generalize hW10 : wc = W10 at H10 ⊢
            clear hW10
            have hBlt : B < W10.heap.size := by have := H10.out.2.2.1.size; have := HBlt.out; omega
            have hNb := HNb.out
            have y0 : W10.cell? ⟨A, i, none⟩ = some (.slice (some ⟨g, 0, none⟩) m lc) := by
              rw [cellOf_heap (H10.out.2.2.1.block A (by have := H8.out.2.size; have := HF.out.1; omega) (by have := HF.out; simp [this.2.1]; exact this.2.2.1))]
              exact HY8.out
            have HY10 := Lib.hid y0
            obtain ⟨c1, fc1⟩ := heapcell H10.out.1 1
            have hnn := (nd4 _ _ _ _ _).1 H8.out.1.nd
            have HO8 : Hid ((W10.drew).ownsRow base 3 1 nvi N ((rows ++ rs.take j).map fun r => Value.int .i64 (r.2.1 : Nat))) := Lib.hid (by
              rw [HNN.out]
              exact ownsRow_keep H8.out.1.n (fun b hb => H10.out.2.2.1.block b ((H8.out.1.n.lt b hb).2) (by simp [(hnn.2.1 b hb).1]; exact fun e => (hnn.1 b e).2.1 hb)))
            have HN1 : Hid (∀ u ∈ [Value.int .i64 (m : Int)], u.oneCell' = true) := Lib.hid (fun u hu => by simp at hu; subst hu; rfl)
            have HN2 : Hid (N + 1 ≤ maxLen) := Lib.hid (by unfold maxLen; omega)
            have HN3 : Hid ((N + 1) * 8 ≤ 140737488355328) := Lib.hid (by omega)
            have HN4 : Hid (∀ o, base ≤ ((W10.drew).alloc o).heap.size) := Lib.hid (fun o => by
              have := H8.out.1.hb
              rw [size_da]; omega)
            have HN5 : Hid (∀ o, B < ((W10.drew).alloc o).heap.size) := Lib.hid (fun o => by
              rw [size_da]; omega)
            have HN6 : Hid (∀ o, ((W10.drew).alloc o).heap[B]? = some (.cells #[lv2, nvi, .int .i64 z2, kv] 47 (0, 0))) := Lib.hid (fun o => (Below.heap_alloc W10.drew _ _ hBlt).trans H10.out.1)
            have HN8 : Hid (some B ≠ nvi.ownBlock) := Lib.hid (fun e => (hnn.2.1 B e.symm).1 rfl)
            have c1a : (W10.alloc (.cells #[Value.int .i64 (m : Int)] 3)).cell? ⟨B, 1, none⟩ = some nvi := (heapcell ((Below.heap_alloc W10 _ _ hBlt).trans H10.out.1) 1).1
            have HBlt2 := Lib.hid hBlt
            clear hNb hBlt hnn HN7
            go_upto_region 6 with fail
            go_cut [] from 58 to 71 (fun wx => ∃ nv2, Hid (BKc P2 wx B lv2 nv2 z2 kv ∧ wx.ownsRow base 3 1 nv2 (N + 1) (((rows ++ rs.take j).map fun r => Value.int .i64 (r.2.1 : Nat)) ++ [.int .i64 (rs[j].2.1 : Nat)]) ∧ KBs (B :: nvi.ownBlock.toList) W10 wx ∧ ∀ g, nv2.ownBlock = some g → nvi.ownBlock = some g ∨ W10.heap.size ≤ g))
            case first =>
              go_region_law ((refine step_append_lies _ (by rfl) _ _ _ (by rfl) base 3 i3 (.int .i64 0) 1 8 Tryz.underlying25 HP3.out.1 HP3.out.2.1 HP3.out.2.2.1 HP3.out.2.2.2 (by rfl) (by decide) _ _ _ (by rfl) (HO8.out.alloc _) ⟨W10.heap.size, 0, none⟩ 1 1 [.int .i64 (m : Int)] (by rfl) (by rfl) (one_new _ _ _) HN1.out (by decide) HN2.out HN3.out (HN4.out _) _ rfl ?_; intro g2 cap2 w1 hown1 hgrow1 hat1 hlt1; have hq := (hgrow1.block B (HN5.out _) HN8.out).trans (HN6.out _); obtain ⟨p1, f1⟩ := heapcell hq 1))
              all_goals
                have HAD := Lib.hid (app_done hq hown1 hgrow1 hat1 HN8.out HBlt2.out 1 (.slice (some ⟨g2, 0, none⟩) (N + 1) cap2))
                clear hq hown1 hgrow1 hat1
                go_wp2_with fail
                go_meet
                refine ⟨_, Lib.hid ⟨HAD.out.1, ?_, HAD.out.2.2.1, HAD.out.2.2.2⟩⟩
                have := HAD.out.2.1
                rw [HRJ.out]; exact this
            case rest =>
              obtain ⟨nv2, H11⟩ := hcut
              clear HO8 HN1 HN2 HN3 HN4 HN5 HN6 HN8 c1a c1 fc1 y0
              generalize hW11 : wc = W11 at H11 ⊢
              clear hW11
              obtain ⟨la2, lc2, hls⟩ := own_slice H10.out.2.1
              subst hls
              obtain ⟨M, hM⟩ : ∃ M : Nat, M = N + 1 := ⟨_, rfl⟩
              have hMb : (M : Int) ≤ 5 := by have := HNb.out; omega
              have hM0 : (0 : Int) ≤ (M : Int) := by omega
              have hwm : IntKind.i64.wrap (-2 * (M : Int)) = -2 * (M : Int) := by exact IntWalk.i64_in _ (by omega)
              have HMM := Lib.hid hM
              have h11 := H11.out.1
              rw [← hM] at h11
              have H11c := Lib.hid h11
              have hfr := HT.out.farR HCX.out (List.getElem_mem hjl)
              rw [HRJ.out] at hfr
              have hra := HT.out.ra rs[j] (by rw [List.drop_eq_getElem_cons hjl]; exact List.mem_cons_self)
              rw [HRJ.out] at hra
              obtain ⟨c0, hcr, hln⟩ := (show ∃ c0, RowC wr g 3 (lc * 1) c0 ∧ m ≤ lc ∧ lc ≤ maxLen ∧ m ≤ 70000 from hra)
              have s8 := H8.out.2.size
              have s10 := H10.out.2.2.1.size
              have hcr11 : RowC W11 g 3 (lc * 1) c0 := hcr.keep (by
                have sg := hcr.lt
                rw [H11.out.2.2.1.block g (by omega) (by simp [hfr.2.1]; exact hfr.2.2.2.1), H10.out.2.2.1.block g (by omega) (by simp [hfr.2.1]; exact hfr.2.2.1), H8.out.2.block g sg (by simpa using hfr.2.1)])
              have hAg : A ≠ g := fun e => by
                have h1 := HA.out
                have : g ∈ rs.map (·.1) := List.mem_map.2 ⟨rs[j], List.getElem_mem hjl, by rw [HRJ.out]⟩
                rw [← e] at this
                exact h1 (List.mem_cons_of_mem _ (List.mem_append_right _ this))
              have HLBg := Lib.hid hAg
              have y0 : W11.cell? ⟨A, i, none⟩ = some (.slice (some ⟨g, 0, none⟩) m lc) := by
                have hf := HF.out
                rw [cellOf_heap (H11.out.2.2.1.block A (by omega) (by simp [hf.2.1]; exact hf.2.2.2))]
                exact HY10.out
              have HY0 := Lib.hid y0
              have HLN := Lib.hid hln
              have HS11 : Hid (A < W11.heap.size ∧ B < W11.heap.size) := Lib.hid ⟨World.block_lt_of_cell? _ _ y0, (Array.getElem?_eq_some_iff.1 h11).1⟩
              have HGB : Hid (g ≠ B) := Lib.hid hfr.2.1
              have HC11 := Lib.hid hcr11
              have hncI : (m : Int) ≤ (lc : Int) := by have := hln.1; omega
              have hn7I : (m : Int) ≤ 70000 := by have := hln.2.2; omega
              clear hM h11 hfr hcr hln hcr11 y0 hAg s8 s10 hra
              go_wp2_with fail
              go_loopw [5] (fun kv' wx => ∃ (k : Nat) (c2 : Nat → Value), k ≤ m ∧ kv' = .int .i64 k ∧ Hid (KBs [g] W11 wx ∧ RowC wx g 3 (lc * 1) c2 ∧ ∀ j, j < k → c2 j = P2.mark N 0))
                (fun kv' _ => m - (intOf kv').toNat)
              case atStart => exact ⟨0, c0, by omega, rfl, Lib.hid ⟨KBs.refl _ _, HC11.out, fun j h => by omega⟩⟩
              case round =>
                obtain ⟨k, c2, hk, rfl, HMK⟩ := hrel
                have hy : wr.cell? ⟨A, i, none⟩ = some (.slice (some ⟨g, 0, none⟩) m lc) := by
                  rw [cellOf_heap (HMK.out.1.block A HS11.out.1 (by simpa using HLBg.out))]; exact HY0.out
                by_cases hkn : k < m
                · have hb0 : wr.cell? ⟨B, 0, none⟩ = some (.slice la2 M lc2) := by
                    rw [cellOf_heap (HMK.out.1.block B HS11.out.2 (by simpa using HGB.out.symm)), (heapcell H11c.out 0).1, HMM.out]; rfl
                  have hkc : k < lc * 1 := by have := HLN.out.1; omega
                  obtain ⟨g0, e0⟩ := HMK.out.2.1.cell (p := k) hkc
                  have hknI : (k : Int) < (m : Int) := by omega
                  generalize c2 k = v0 at g0
                  clear hkc
                  go_wp2_with fail
                  go_still_tail 11, (by kernel_rfl)
                  go_wp2_with fail
                  go_roundw
                  case rel =>
                    refine ⟨k + 1, _, by omega, by go_num, Lib.hid ⟨?_, RowC.keep (HMK.out.2.1.set k (.int .i64 (-2 * (M : Int)))) rfl, fun j hj => ?_⟩⟩
                    · exact (HMK.out.1.trans (KBs.set g k _) (fun _ h => .inl h)).drew
                    · show (if j = k then _ else _) = Value.int .i64 (-2 * (N : Int) - 2)
                      split
                      · rw [show -2 * (M : Int) = -2 * (N : Int) - 2 from by have := HMM.out; omega]
                      · exact HMK.out.2.2 j (by omega)
                  case measure => simp [intOf]; omega
                · obtain rfl : k = m := by omega
                  have hknI : ¬ ((k : Int) < (k : Int)) := by omega
                  go_wp2_with fail
                  go_roundw
                  case rel =>
                    refine ⟨i + 1, j + 1, .slice la2 (N + 1) lc2, nv2, z2, by omega, HLEN2.out.symm, by go_num, Lib.hid (take_step HT.out HCX.out hjl H8.out.1 H8.out.2 ?_ H10.out.2.2.1 H10.out.2.2.2 H11.out.1 ?_ H11.out.2.2.1 H11.out.2.2.2 ?_ ?_), Lib.hid HZ2.out.2⟩
                    · rw [← HNN.out]; exact H10.out.2.1
                    · rw [← HNN.out]; exact H11.out.2.1
                    · rw [HRJ.out]; exact HMK.out.1
                    · rw [← HNN.out]
                      refine ⟨c2, by rw [HRJ.out]; exact HMK.out.2.1, by rw [HRJ.out]; exact HLN.out, fun k' hk' q hq => ?_⟩
                      rw [HRJ.out] at hk'
                      have hq0 : q = 0 := by have : P2.es = 1 := rfl; omega
                      subst hq0
                      rw [show k' * P2.es + 0 = k' from Nat.mul_one k']
                      exact HMK.out.2.2 k' hk'
                  case measure => simp [intOf]; omega
        · have hlcI : ((0 : Nat) : Int) = 0 := rfl
          have hz0 := outs_zero hlt hrr
          have HZ0 := Lib.hid hz0
          clear hz0 hrr
          go_wp2_with fail
          go_roundw
          case rel => exact ⟨i + 1, j, lvi, nvi, z2, by omega, by rw [HZ0.out]; exact HJ.out, by go_num, Lib.hid (HT.out.setz HCX.out H8.out.1 H8.out.2), Lib.hid HZ2.out.2⟩
          case measure => simp [intOf]; omega
    · obtain rfl : i = ts.length := by omega
      have hltI : ¬ ((ts.length : Int) < (ts.length : Int)) := by omega
      have HJ := Lib.hid hj
      clear hj
      go_wp2_with fail
      go_end0
      have hj := HJ.out
      rw [List.take_length, ← HRS.out] at hj
      refine ⟨rfl, lvi, nvi, zi, ?_⟩
      rw [← hj]; exact HT.out
end

section
open Go.RowKit
set_option maxRecDepth 100000
def sp2 (j _q : Nat) : Value := .int .i64 (-2 * (j : Int) - 3)
set_option maxHeartbeats 40000000 in
theorem pwhole_any (w : World) (base B A kc : Nat) (lv nv : Value) (ts : List Tr)
    (hbk : BK P2 base w B [] lv nv (.slice (some ⟨A, 0, none⟩) ts.length kc) 0 ts.length (ts.flatMap (·.x))) (hts : ∀ t ∈ ts, PtOk w t) (hlen : ts.length ≤ 4)
    (hnd : ((outs ts).map (·.1)).Nodup) (hrb : ∀ r ∈ outs ts, base ≤ r.1 ∧ r.1 ∉ bkB B [] lv nv (.slice (some ⟨A, 0, none⟩) ts.length kc)) :
    Calls Tryz.prog 21 #[.pointer (some ⟨B, 0, none⟩)] w fun e w' => e = .returned (.bool true) ∧ Below base w w' := by
  obtain ⟨i3, hi3, _, hy1, _⟩ := info_parts info3
  have HI := Lib.hid (And.intro hi3 hy1)
  clear hi3 hy1
  have hav : ∀ (i : Nat) (h : i < ts.length) v, ts[i].x[0]? = some v → w.cell? ⟨A, i, none⟩ = some v := fun i h v hq => by
    have hfl : ∀ (l : List Tr) (i : Nat) (h : i < l.length), (∀ t ∈ l, PtOk w t) → ∀ v, l[i].x[0]? = some v → (l.flatMap (·.x))[i]? = some v := fun l => by
      induction l with
      | nil => intro i h; simp at h
      | cons t r ih =>
        intro i h h4 v hq
        obtain ⟨la, m, lc, hx, _⟩ := h4 t (by simp)
        rw [List.flatMap_cons]
        cases i with
        | zero =>
          simp only [List.getElem_cons_zero] at hq
          rw [hx] at hq ⊢
          simpa using hq
        | succ i =>
          rw [hx, List.singleton_append, List.getElem?_cons_succ]
          exact ih i (by simpa using h) (fun x hx => h4 x (by simp [hx])) v hq
    have := hbk.k.cells (g := A) rfl i v (hfl ts i h hts v hq)
    rwa [addr_add0] at this
  have hnn := (nd4 _ _ _ _ _).1 hbk.nd
  have hT := ptake_any w base B A kc [] lv nv _ 0 ts.length _ ts hbk hts hav (fun hm => by
    simp only [List.mem_cons, List.mem_append] at hm
    rcases hm with rfl | (h | h) | h
    · exact (hnn.2.2.1 _ rfl).1 rfl
    · exact (hnn.1 _ (by simpa using h)).2.2.1 rfl
    · exact (hnn.2.1 _ (by simpa using h)).2.1 rfl
    · obtain ⟨r, hr, e⟩ := List.mem_map.1 h
      exact (hrb r hr).2 (mem_bkB.2 (.inr (.inr (.inr (.inl (by rw [e]; rfl))))))) hlen rfl hnd hrb rfl
  have hol : (outs ts).length ≤ 4 := by
    have hle : ∀ l : List Tr, (∀ t ∈ l, PtOk w t) → (outs l).length ≤ l.length := fun l => by
      induction l with
      | nil => intro _; simp [outs]
      | cons t r ih =>
        intro h
        have h1 := ih (fun t ht => h t (List.mem_cons_of_mem _ ht))
        obtain ⟨_, _, _, _, _, _, h2⟩ := h t List.mem_cons_self
        unfold outs at h1 ⊢
        rw [List.flatMap_cons, List.length_append, List.length_cons]
        have h4 : t.rs.length ≤ 1 := by rcases h2 with ⟨_, g, _, h3, _⟩ | ⟨_, h3⟩ <;> rw [h3] <;> simp
        omega
    exact Nat.le_trans (hle ts hts) hlen
  have hb0 := hbk.c
  obtain ⟨c3, _⟩ := heapcell hb0 3
  have HT := Lib.hid hT
  have HBKL : Hid (∀ g ∈ bkB B [] lv nv (.slice (some ⟨A, 0, none⟩) ts.length kc), base ≤ g ∧ g < w.heap.size) := Lib.hid hbk.lt
  have HRB := Lib.hid hrb
  clear hbk hts hnd hrb hav hT hb0 hnn
  go_enter Tryz.func21, Tryz.ntmps21
  go_wp2_with fail
  refine HT.out.mono ?_
  rintro e w1 ⟨rfl, lv', nv', z', hE⟩
  have HB1 : Hid (Below base w w1) := Lib.hid (hE.kb.below (fun g hg => by
    simp only [List.mem_cons, List.mem_append] at hg
    rcases hg with rfl | (h | h) | h
    · exact (HBKL.out g (mem_bkB.2 (.inl rfl))).1
    · exact (HBKL.out g (mem_bkB.2 (.inr (.inl (by simpa using h))))).1
    · exact (HBKL.out g (mem_bkB.2 (.inr (.inr (.inl (by simpa using h)))))).1
    · obtain ⟨r, hr, rfl⟩ := List.mem_map.1 h
      exact (HRB.out r hr).1) (Nat.le_trans (HBKL.out B (mem_bkB.2 (.inl rfl))).1 (Nat.le_of_lt (HBKL.out B (mem_bkB.2 (.inl rfl))).2)))
  have hbk1 := hE.bk
  rw [List.take_length, List.nil_append] at hbk1
  generalize hR : outs ts = R at hol hbk1
  have hRl : R.length ≤ 4 := hol
  obtain ⟨LV, NV, la, na, lc, nc, rfl, rfl, C, hna, hrr, hnc, hgb, hgx⟩ := hbk1.gc
  have HBK1 := Lib.hid hbk1
  have HC := Lib.hid C
  have HNA := Lib.hid hna
  have HRR := Lib.hid hrr
  have HNC := Lib.hid hnc
  have HGB := Lib.hid hgb
  have HGX := Lib.hid (hgx sp2)
  have hbc : ∀ {F : Nat → Nat} {Inv : Nat → Nat → Nat → Value → Prop} {wr : World}, GX 1 3 25 LV R w1 F Inv wr → BKc P2 wr B (.slice la R.length lc) (.slice na R.length nc) z' (.slice (some ⟨A, 0, none⟩) ts.length kc) := fun h =>
    (h.other (HBK1.out.lt B (mem_bkB.2 (.inl rfl))).2 (fun h0 => (HNA.out h0).2.2.2) (fun r hr => (HRR.out r hr).1)).trans HBK1.out.c
  have hnv : ∀ {F : Nat → Nat} {Inv : Nat → Nat → Nat → Value → Prop} {wr : World}, GX 1 3 25 LV R w1 F Inv wr → ∀ (j : Nat) (r : Rw), R[j]? = some r → wr.cell? ⟨NV, j, none⟩ = some (.int .i64 (r.2.1 : Nat)) := fun h j r hj => by
    have h0 : 0 < R.length := by have := (List.getElem?_eq_some_iff.1 hj).1; omega
    exact (cellOf_heap (h.other (HNA.out h0).2.1 (fun h0 => (HNA.out h0).2.2.1) (fun r hr => (HRR.out r hr).2 h0))).trans (HNC.out j r hj)
  have hba : ∀ {F : Nat → Nat} {Inv : Nat → Nat → Nat → Value → Prop} {wr : World}, GX 1 3 25 LV R w1 F Inv wr → Below base w wr := fun h =>
    HB1.out.trans (h.k.below HGB.out (Nat.le_trans HBK1.out.hb (Nat.le_of_lt (HBK1.out.lt B (mem_bkB.2 (.inl rfl))).2)))
  have HBC := @hbc
  have HNV : Hid (∀ (F : Nat → Nat) (Inv : Nat → Nat → Nat → Value → Prop) (wr : World), GX 1 3 25 LV R w1 F Inv wr → ∀ (j : Nat) (r : Rw), R[j]? = some r → wr.cell? ⟨NV, j, none⟩ = some (.int .i64 (r.2.1 : Nat))) := Lib.hid (fun F Inv wr h => hnv h)
  have HBA := @hba
  clear hE hR hol hbk1 C hna hrr hnc hgb hgx c3 HT hbc hnv hba
  go_wp2_with fail
  go_loopw [3] (fun iv wr => ∃ i : Nat, i ≤ R.length ∧ iv = .int .i64 i ∧ Hid (GX 1 3 25 LV R w1 (fA R i (lenR R i)) (InvT R P2.mark sp2) wr))
    (fun iv _ => R.length - (intOf iv).toNat)
  case atStart => exact ⟨0, by omega, rfl, Lib.hid (HGX.out.mono (fun j r hj => fA_start R j) (fun _ _ _ _ _ _ _ h => h))⟩
  case round =>
    obtain ⟨i, hi, rfl, HW⟩ := hrel
    obtain ⟨b0, _⟩ := heapcell (HBC HW.out) 0
    by_cases hlt : i < R.length
    · have hltI : (i : Int) < (R.length : Int) := by omega
      obtain ⟨r, hr⟩ : ∃ r, R[i]? = some r := ⟨R[i], List.getElem?_eq_getElem hlt⟩
      obtain rfl := HC.out.la (by omega)
      obtain ⟨rfl, _, _, _⟩ := HNA.out (by omega)
      have x0 := (HW.out.cellL hr).1
      rw [fA_self, lenR_get hr] at x0
      obtain ⟨b1, _⟩ := heapcell (HBC HW.out) 1
      have n0 := HNV.out _ _ _ HW.out i r hr
      have hend := end_le HC.out hr
      obtain ⟨_, r5, r6, r7⟩ := HC.out.rr i r hr
      have hcI : ((r.2.2 : Nat) : Int) ≤ 9223372036854775807 := by unfold maxLen at r6; omega
      have HRM : ∀ W, Hid (Calls Tryz.prog 36 #[.int .i64 (r.2.1 : Nat), .int .i64 (r.2.2 : Nat)] W fun e w' => e = .returned (.int .i64 (endR R i : Nat)) ∧ w' = W) := fun W => Lib.hid (by rw [hend.2.2]; exact room_any W _ _ (by omega))
      generalize hE : endR R i = E at hend HRM
      have HR := Lib.hid hr
      have HE := Lib.hid hE
      have HEN := Lib.hid (And.intro hend.1 hend.2.1)
      have hEI : (E : Int) ≤ 9223372036854775807 := by omega
      have h0 : Hid (GX 1 3 25 LV R w1 (fA R i r.2.1) (InvT R P2.mark sp2) wr.drew) := Lib.hid (by have := HW.out.drew; rw [lenR_get hr] at this; exact this)
      clear hr hE hend r5 r6 r7
      go_wp2_with fail
      go_still_tail 16, (by kernel_rfl)
      still_call (HRM _).out
      repeat still_step
      refine wpStill_nil ?_
      clear HRM
      go_wp2_with fail
      clear HW x0 b0 b1 n0
      go_loopw [] (fun wr => ∃ (c : Nat), r.2.1 ≤ c ∧ c ≤ E ∧ Hid (GX 1 3 25 LV R w1 (fA R i c) (InvT R P2.mark sp2) wr)) (fun wr => E - lenAt LV i wr)
      case atStart => exact ⟨r.2.1, by omega, HEN.out.1, h0⟩
      case round =>
        obtain ⟨c, hc1, hc2, HW⟩ := hrel
        obtain ⟨b0, _⟩ := heapcell (HBC HW.out) 0
        obtain ⟨x0, fx0⟩ := HW.out.cellL HR.out
        rw [fA_self] at x0
        have HLA := Lib.hid (lenAt_eq x0)
        by_cases hlt2 : c < E
        · have hcI : (c : Int) < (E : Int) := by omega
          have r2' : LV ≠ r.1 := fun e => (HC.out.rr i r HR.out).1 e.symm
          have r1 : r.1 ≠ B := (HRR.out r (List.mem_of_getElem? HR.out)).1
          have hi4 : (i : Int) ≤ 4 := by omega
          have hwi : IntKind.i64.wrap (-2 * (i : Int)) = -2 * (i : Int) := by exact IntWalk.i64_in _ (by omega)
          have hwj : IntKind.i64.wrap (-2 * (i : Int) - 3) = -2 * (i : Int) - 3 := by exact IntWalk.i64_in _ (by omega)
          have HROOM : Hid (c + 1 ≤ r.2.2) := Lib.hid (by have := HEN.out.2; omega)
          have HSP : ∀ o, Hid (((wr.alloc o).cell? ⟨r.1, c, none⟩).isSome = true ∧ (wr.alloc o).frozen? ⟨r.1, c, none⟩ = false) := fun o => Lib.hid (by
            obtain ⟨⟨v, hv⟩, hf⟩ := (HW.out.alloc o).cellR (p := c) HR.out (by have := HROOM.out; omega)
            exact ⟨by rw [hv]; rfl, hf⟩)
          have b0a : ∀ o, (wr.alloc o).cell? ⟨B, 0, none⟩ = some (.slice (some ⟨LV, 0, none⟩) R.length lc) := fun o => (heapcell (HBC (HW.out.alloc o)) 0).1
          have x0a : ∀ o, (wr.alloc o).cell? ⟨LV, i, none⟩ = some (.slice (some ⟨r.1, 0, none⟩) c r.2.2) := fun o => by
            have := ((HW.out.alloc o).cellL HR.out).1
            rwa [fA_self] at this
          have fx0a : ∀ o, (wr.alloc o).frozen? ⟨LV, i, none⟩ = false := fun o => ((HW.out.alloc o).cellL HR.out).2
          have hlen : ¬ c < lenR R i := by rw [lenR_get HR.out]; omega
          have HNEW : Hid (∀ q, InvT R P2.mark sp2 i c q (.int .i64 (-2 * (i : Int) - 3))) := Lib.hid (fun q => (if_neg hlen).symm)
          clear hlen
          go_wp2_with fail
          go_region_law (refine step_append_one (by rfl) _ _ _ (by rfl) 3 i3 Tryz.underlying25 HI.out.1 HI.out.2 r.1 c r.2.2 (by rfl) ⟨wr.heap.size, 0, none⟩ 1 (.int .i64 (-2 * (i : Int) - 3)) (by rfl) (one_new _ _ _) rfl HROOM.out (HSP _).out ?_)
          all_goals
            go_wp2_with fail
            have HG := Lib.hid (((HW.out.alloc (.cells #[.int .i64 (-2 * (i : Int) - 3)] 3)).grow (Inv' := InvT R P2.mark sp2) (F' := fA R i (c + 1)) HC.out (by decide) HR.out (fA_self R i c) HROOM.out (fun _ => .int .i64 (-2 * (i : Int) - 3)) (kbs_one (g := r.1) (k0 := c) (v := .int .i64 (-2 * (i : Int) - 3))) (fun c0 h => row_one h c _) (fA_next R i c) (fun _ _ _ _ _ h => h) HNEW.out).drew)
            go_roundw
            case rel => exact ⟨c + 1, by omega, by omega, HG⟩
            case measure =>
              have h1 := lenAt_eq (HG.out.cellL HR.out).1
              rw [fA_self] at h1
              exact meas_lt h1 HLA.out hlt2
        · obtain rfl : c = E := by omega
          have hcI : ¬ ((c : Int) < (c : Int)) := by omega
          go_wp2_with fail
          go_roundw
          case rel => exact ⟨i + 1, by omega, by go_num, Lib.hid (HW.out.mono (fun j r hj => by rw [fA_end, HE.out]) (fun _ _ _ _ _ _ _ h => h))⟩
          case measure => simp [intOf]; omega
    · obtain rfl : i = R.length := by omega
      have hltI : ¬ ((R.length : Int) < (R.length : Int)) := by omega
      have HW2 : Hid (GX 1 3 25 LV R w1 (endR R) (InvT R P2.mark sp2) wr) := Lib.hid (HW.out.mono (fun j r hj => (fA_done R _ hj).symm) (fun _ _ _ _ _ _ _ h => h))
      clear HW
      go_wp2_with fail
      go_loopw [5] (fun iv wr => ∃ i : Nat, i ≤ R.length ∧ iv = .int .i64 i ∧ Hid (GX 1 3 25 LV R w1 (endR R) (InvT R P2.mark sp2) wr))
        (fun iv _ => R.length - (intOf iv).toNat)
      case atStart => exact ⟨0, by omega, rfl, HW2⟩
      case round =>
        obtain ⟨i, hi, rfl, HW⟩ := hrel
        obtain ⟨b0, _⟩ := heapcell (HBC HW.out) 0
        by_cases hlt : i < R.length
        · have hltI : (i : Int) < (R.length : Int) := by omega
          obtain ⟨r, hr⟩ : ∃ r, R[i]? = some r := ⟨R[i], List.getElem?_eq_getElem hlt⟩
          obtain rfl := HC.out.la (by omega)
          obtain ⟨rfl, _, _, _⟩ := HNA.out (by omega)
          have HR := Lib.hid hr
          obtain ⟨E, hE⟩ : ∃ E, E = endR R i := ⟨_, rfl⟩
          have HE := Lib.hid hE
          have h8I : (E : Int) ≤ 140000 := by
            have := end_le HC.out hr
            have := (HC.out.rr i r hr).2.2.2
            omega
          have h7I : (r.2.1 : Int) ≤ 70000 := by
            have := (HC.out.rr i r hr).2.2.2
            omega
          have hi4 : (i : Int) ≤ 4 := by omega
          have hwi : IntKind.i64.wrap (-2 * (i : Int)) = -2 * (i : Int) := by exact IntWalk.i64_in _ (by omega)
          have hwj : IntKind.i64.wrap (-2 * (i : Int) - 3) = -2 * (i : Int) - 3 := by exact IntWalk.i64_in _ (by omega)
          have hwk : IntKind.i64.wrap (-2 * (i : Int) - 2) = -2 * (i : Int) - 2 := by exact IntWalk.i64_in _ (by omega)
          clear hr hE
          go_wp2_with fail
          go_loopw [6] (fun kv' wr => ∃ k : Nat, k ≤ E ∧ kv' = .int .i64 k ∧ Hid (GX 1 3 25 LV R w1 (endR R) (InvT R P2.mark sp2) wr))
            (fun kv' _ => E - (intOf kv').toNat)
          case atStart => exact ⟨0, by omega, rfl, HW⟩
          case round =>
            obtain ⟨k, hk, rfl, HW⟩ := hrel
            obtain ⟨b0, _⟩ := heapcell (HBC HW.out) 0
            obtain ⟨b1, _⟩ := heapcell (HBC HW.out) 1
            have n0 := HNV.out _ _ _ HW.out i r HR.out
            have x0 := (HW.out.cellL HR.out).1
            rw [← HE.out] at x0
            by_cases hlt2 : k < E
            · have hkI : (k : Int) < (E : Int) := by omega
              obtain ⟨v, m0, e⟩ := HW.out.cellM (k := k) (q := 0) HR.out (by rw [← HE.out]; exact hlt2) (by decide)
              unfold InvT at e
              rw [lenR_get HR.out] at e
              rw [e, Nat.mul_one, Nat.add_zero] at m0
              clear e
              by_cases hkl : k < r.2.1
              · rw [if_pos hkl] at m0
                simp only [P2] at m0
                have hklI : (k : Int) < (r.2.1 : Int) := by omega
                have hd : decide (r.2.1 ≤ k) = false := decide_eq_false (by omega)
                clear hkl
                go_wp2_with fail
                go_roundw
                case rel => exact ⟨k + 1, by omega, by go_num, HW⟩
                case measure => simp [intOf]; omega
              · rw [if_neg hkl] at m0
                simp only [sp2] at m0
                have hklI : ¬ (k : Int) < (r.2.1 : Int) := by omega
                have hd : decide (r.2.1 ≤ k) = true := decide_eq_true (by omega)
                clear hkl
                go_wp2_with fail
                go_roundw
                case rel => exact ⟨k + 1, by omega, by go_num, HW⟩
                case measure => simp [intOf]; omega
            · obtain rfl : k = E := by omega
              have hkI : ¬ (k : Int) < (k : Int) := by omega
              go_wp2_with fail
              go_roundw
              case rel => exact ⟨i + 1, by omega, by go_num, HW⟩
              case measure => simp [intOf]; omega
        · obtain rfl : i = R.length := by omega
          have hltI : ¬ ((R.length : Int) < (R.length : Int)) := by omega
          go_wp2_with fail
          go_ret
          exact ⟨rfl, HBA HW.out⟩
end

section
open Go.RowKit
set_option maxRecDepth 100000
/-- What a step may change: blocks that bear the tag j, and new memory. -/
structure Chg (o : Nat → Nat) (j : Nat) (w w' : World) : Prop where
  os : w'.os = w.os
  tape : w'.tape = w.tape
  output : w'.output = w.output
  size : w.heap.size ≤ w'.heap.size
  block : ∀ g, g < w.heap.size → o g ≠ j → w'.heap[g]? = w.heap[g]?
theorem Chg.of_below {o : Nat → Nat} {j : Nat} {w w' : World} (h : Below w.heap.size w w') : Chg o j w w' := ⟨h.os, h.tape, h.output, h.size, fun g hg _ => h.block g hg⟩
theorem Chg.of_kbs {o : Nat → Nat} {j : Nat} {w w' : World} {bs : List Nat} (h : KBs bs w w') (hb : ∀ g ∈ bs, g < w.heap.size → o g = j) : Chg o j w w' := ⟨h.os, h.tape, h.output, h.size, fun g hg hn => h.block g hg (fun hm => hn (hb g hm hg))⟩
/-- Tags: new blocks bear j. -/
def ext (o : Nat → Nat) (n j : Nat) (g : Nat) : Nat := if g < n then o g else j
theorem ext_old {o : Nat → Nat} {n j g : Nat} (h : g < n) : ext o n j g = o g := if_pos h
theorem ext_new {o : Nat → Nat} {n j g : Nat} (h : n ≤ g) : ext o n j g = j := if_neg (by omega)
/-- The block of a tree's kids. -/
def outB : Value → List Nat
  | .agg cs => (cs.getD 3 .nilIface).ownBlock.toList
  | _ => []
def cells4 : Value → List Value
  | .agg cs => cs.toList
  | _ => []
def rowsOf : Value → List Rw
  | .agg cs => match cs.getD 3 .nilIface with
    | .slice (some a) m lc => if 0 < lc then [(a.block, m, lc)] else []
    | _ => []
  | _ => []
def trOf (v : Value) : Tr := ⟨cells4 v, rowsOf v⟩
theorem OutT.mono {base base' : Nat} {w : World} {k s : ByteArray} {n : Int} {v : Value} (h : OutT base' w k n s v) (hb : base ≤ base') : OutT base w k n s v := by
  rcases h with ⟨h1, kv, h2, h3, h4⟩ | h
  · exact .inl ⟨h1, kv, h2, h3.mono hb, h4⟩
  · exact .inr h
theorem OutT.keep {base : Nat} {w w' : World} {k s : ByteArray} {n : Int} {v : Value} (h : OutT base w k n s v) (hk : ∀ g ∈ outB v, w'.heap[g]? = w.heap[g]?) : OutT base w' k n s v := by
  rcases h with ⟨h1, kv, rfl, h3, h4⟩ | h
  · exact .inl ⟨h1, kv, rfl, ownsRow_keep h3 (fun g e => hk g (by simp [outB, e])), h4⟩
  · exact .inr h
theorem OutT.lt {base : Nat} {w : World} {k s : ByteArray} {n : Int} {v : Value} (h : OutT base w k n s v) : ∀ g ∈ outB v, base ≤ g ∧ g < w.heap.size := fun g hg => by
  rcases h with ⟨h1, kv, rfl, h3, h4⟩ | ⟨_, rfl⟩
  · simp [outB] at hg
    exact h3.lt g hg
  · simp [outB, zeroT, Value.ownBlock] at hg
theorem OutT.form {base : Nat} {w : World} {k s : ByteArray} {n : Int} {v : Value} (h : OutT base w k n s v) : ∃ (kk : ByteArray) (nn : Int) (ss : ByteArray) (la : Option Addr) (m lc : Nat), v = .agg #[.string kk, .int .i64 nn, .string ss, .slice la m lc] := by
  rcases h with ⟨h1, kv, rfl, h3, h4⟩ | ⟨_, rfl⟩
  · obtain ⟨la, lc, rfl⟩ := own_slice h3
    exact ⟨_, _, _, _, _, _, rfl⟩
  · exact ⟨_, _, _, _, _, _, rfl⟩
theorem OutT.tr {base : Nat} {w : World} {k s : ByteArray} {n : Int} {v : Value} (h : OutT base w k n s v) : TrOk w (trOf v) ∧ (rowsOf v).map (·.1) = outB v ∧ (rowsOf v).length ≤ 1 ∧ (cells4 v).length = 4 ∧ ∀ u ∈ cells4 v, u.oneCell' = true := by
  rcases h with ⟨h1, kv, rfl, h3, h4⟩ | ⟨_, rfl⟩
  · obtain ⟨la, lc, rfl, hk⟩ := own_kids h3
    rcases h3.2 with ⟨e, h0⟩ | ⟨g, cap, cur, e, hb, hg, hc1, hc2, hc3, _⟩
    · omega
    · simp only [Value.slice.injEq, true_and] at e
      obtain ⟨rfl, rfl⟩ := e
      have hr : rowsOf (.agg #[.string FR, .int .i64 0, .string ⟨#[]⟩, .slice (some ⟨g, 0, none⟩) 3 lc]) = [(g, 3, lc)] := by
        simp [rowsOf]; omega
      refine ⟨⟨FR, 0, ⟨#[]⟩, some ⟨g, 0, none⟩, 3, lc, k, n, s, rfl, by omega, hc2, hk, fun g' e => ?_, ?_, fun r hrm => ?_⟩, ?_, ?_, rfl, ?_⟩
      · simp at e; subst e; exact (Array.getElem?_eq_some_iff.1 hg).1
      · show kidsOf _ _ _ = (rowsOf (.agg #[.string FR, .int .i64 0, .string ⟨#[]⟩, .slice (some ⟨g, 0, none⟩) 3 lc])).map rowV
        rw [hr]
        unfold kidsOf
        rw [if_pos (by omega)]; rfl
      · have hrm' : r ∈ rowsOf (.agg #[.string FR, .int .i64 0, .string ⟨#[]⟩, .slice (some ⟨g, 0, none⟩) 3 lc]) := hrm
        rw [hr] at hrm'
        simp at hrm'
        subst hrm'
        have hrc := RowC.of hg
        rw [hc3] at hrc
        exact ⟨_, hrc, hc1, hc2, by show 3 ≤ 70000; omega⟩
      · rw [hr]; rfl
      · rw [hr]; simp
      · intro u hu
        simp [cells4] at hu
        rcases hu with rfl | rfl | rfl | rfl <;> rfl
  · refine ⟨⟨⟨#[]⟩, 0, ⟨#[]⟩, none, 0, 0, ⟨#[]⟩, 0, ⟨#[]⟩, rfl, by omega, by unfold maxLen; omega, fun h => by omega, fun g e => by simp at e, rfl, fun r hr => by
      have : r ∈ rowsOf zeroT := hr
      simp [rowsOf, zeroT] at this⟩, rfl, by simp [rowsOf, zeroT], rfl, ?_⟩
    intro u hu
    simp [cells4, zeroT] at hu
    rcases hu with rfl | rfl | rfl | rfl <;> rfl
section
variable {base B : Nat} {o o' : Nat → Nat} {w w' : World} {j : Nat}
/-- The trees' book, tag 1. -/
structure D1 (base B : Nat) (o : Nat → Nat) (w : World) (rows : List Rw) (lv nv kv : Value) (z : Int) (vs : List Value) : Prop where
  b : BK P1 base w B rows lv nv kv z vs.length (vs.flatMap cells4)
  t : ∀ g ∈ bkB B rows lv nv kv, o g = 1
theorem D1.chg {rows : List Rw} {lv nv kv : Value} {z : Int} {vs : List Value} (h : D1 base B o w rows lv nv kv z vs) (hc : Chg o j w w') (hj : 1 ≠ j) (ho : ∀ g, g < w.heap.size → o' g = o g) : D1 base B o' w' rows lv nv kv z vs :=
  ⟨h.b.keep (fun g hg => hc.block g (h.b.lt g hg).2 (by rw [h.t g hg]; exact hj)), fun g hg => by rw [ho g (h.b.lt g hg).2]; exact h.t g hg⟩
/-- The kept trees, tag 2. -/
structure D2 (base : Nat) (o : Nat → Nat) (w : World) (k : ByteArray) (n : Int) (s : ByteArray) (vs : List Value) : Prop where
  v : ∀ v ∈ vs, OutT base w k n s v
  t : ∀ v ∈ vs, ∀ g ∈ outB v, o g = 2
  nd : (vs.flatMap outB).Nodup
theorem D2.chg {k s : ByteArray} {n : Int} {vs : List Value} (h : D2 base o w k n s vs) (hc : Chg o j w w') (hj : 2 ≠ j) (ho : ∀ g, g < w.heap.size → o' g = o g) : D2 base o' w' k n s vs :=
  ⟨fun v hv => (h.v v hv).keep (fun g hg => hc.block g ((h.v v hv).lt g hg).2 (by rw [h.t v hv g hg]; exact hj)), fun v hv g hg => by rw [ho g ((h.v v hv).lt g hg).2]; exact h.t v hv g hg, h.nd⟩
/-- The names' lists, tag 3. -/
structure D3 (base B : Nat) (o : Nat → Nat) (w : World) (R : List Rw) (lv : Value) (z : Int) : Prop where
  b : LK base w B R lv z
  t : ∀ g ∈ lkB B R lv, o g = 3
theorem D3.chg {R : List Rw} {lv : Value} {z : Int} (h : D3 base B o w R lv z) (hc : Chg o j w w') (hj : 3 ≠ j) (ho : ∀ g, g < w.heap.size → o' g = o g) : D3 base B o' w' R lv z :=
  ⟨h.b.keep (fun g hg => hc.block g (h.b.lt g hg).2 (by rw [h.t g hg]; exact hj)), fun g hg => by rw [ho g (h.b.lt g hg).2]; exact h.t g hg⟩
/-- The paths' book, tag 4. -/
structure D4 (base B : Nat) (o : Nat → Nat) (w : World) (lv nv kv : Value) (us : List Value) : Prop where
  b : BK P2 base w B [] lv nv kv 0 us.length us
  t : ∀ g ∈ bkB B [] lv nv kv, o g = 4
theorem D4.chg {lv nv kv : Value} {us : List Value} (h : D4 base B o w lv nv kv us) (hc : Chg o j w w') (hj : 4 ≠ j) (ho : ∀ g, g < w.heap.size → o' g = o g) : D4 base B o' w' lv nv kv us :=
  ⟨h.b.keep (fun g hg => hc.block g (h.b.lt g hg).2 (by rw [h.t g hg]; exact hj)), fun g hg => by rw [ho g (h.b.lt g hg).2]; exact h.t g hg⟩
/-- The kept paths, tag 5. -/
structure D5 (base : Nat) (o : Nat → Nat) (w : World) (l : List Int) (us : List Value) : Prop where
  u : ∀ u ∈ us, OwnPath base w l u
  t : ∀ u ∈ us, ∀ g, u.ownBlock = some g → o g = 5
  nd : (us.flatMap (·.ownBlock.toList)).Nodup
theorem D5.chg {l : List Int} {us : List Value} (h : D5 base o w l us) (hc : Chg o j w w') (hj : 5 ≠ j) (ho : ∀ g, g < w.heap.size → o' g = o g) : D5 base o' w' l us :=
  ⟨fun u hu => ownsRow_keep (h.u u hu) (fun g hg => hc.block g ((h.u u hu).lt g hg).2 (by rw [h.t u hu g hg]; exact hj)), fun u hu g hg => by rw [ho g ((h.u u hu).lt g hg).2]; exact h.t u hu g hg, h.nd⟩
/-- The tree that is wanted, in its box, tag 6. -/
structure D6 (base T : Nat) (o : Nat → Nat) (w : World) (k : ByteArray) (n : Int) (s : ByteArray) (v : Value) : Prop where
  c : w.heap[T]? = some (.cells (cells4 v).toArray 24 (0, 0))
  vv : OutT base w k n s v
  t : o T = 6
  tb : ∀ g ∈ outB v, o g = 6
theorem D6.chg {T : Nat} {k s : ByteArray} {n : Int} {v : Value} (h : D6 base T o w k n s v) (hc : Chg o j w w') (hj : 6 ≠ j) (ho : ∀ g, g < w.heap.size → o' g = o g) : D6 base T o' w' k n s v :=
  ⟨(hc.block T (Array.getElem?_eq_some_iff.1 h.c).1 (by rw [h.t]; exact hj)).trans h.c, h.vv.keep (fun g hg => hc.block g (h.vv.lt g hg).2 (by rw [h.tb g hg]; exact hj)), by rw [ho T (Array.getElem?_eq_some_iff.1 h.c).1]; exact h.t, fun g hg => by rw [ho g (h.vv.lt g hg).2]; exact h.tb g hg⟩
/-- What was there ahead stands, tag 0. -/
structure D0 (w0 : World) (o : Nat → Nat) (w : World) : Prop where
  b : Below w0.heap.size w0 w
  t : ∀ g, g < w0.heap.size → o g = 0
theorem D0.chg {w0 : World} (h : D0 w0 o w) (hc : Chg o j w w') (hj : 0 ≠ j) (ho : ∀ g, g < w.heap.size → o' g = o g) : D0 w0 o' w' :=
  ⟨⟨hc.os.trans h.b.os, hc.tape.trans h.b.tape, hc.output.trans h.b.output, Nat.le_trans h.b.size hc.size, fun g hg => (hc.block g (Nat.lt_of_lt_of_le hg h.b.size) (by rw [h.t g hg]; exact hj)).trans (h.b.block g hg)⟩, fun g hg => by rw [ho g (Nat.lt_of_lt_of_le hg h.b.size)]; exact h.t g hg⟩
end
end

section
open Go.RowKit
set_option maxRecDepth 100000
/-- What is fixed: the world ahead of the books, the books' places, the wanted tree's place and value, the leaf, the path. -/
structure Cx where
  W0 : World
  B1 : Nat
  B2 : Nat
  B3 : Nat
  TW : Nat
  k : ByteArray
  n : Int
  s : ByteArray
  l : List Int
  wv : Value
abbrev Cx.base (X : Cx) : Nat := X.W0.heap.size
/-- The books as they stand: cv trees, cu paths, cr lists of names are kept. -/
structure LStE (X : Cx) (cv cu cr : Nat) (w : World) (o : Nat → Nat) (rows : List Rw) (lv1 nv1 kv1 : Value) (z1 : Int) (vs : List Value) (R : List Rw) (lv2 : Value) (z2 : Int) (lv3 nv3 kv3 : Value) (us : List Value) : Prop where
  d0 : D0 X.W0 o w
  d1 : D1 X.base X.B1 o w rows lv1 nv1 kv1 z1 vs
  d2 : D2 X.base o w X.k X.n X.s vs
  d3 : D3 X.base X.B2 o w R lv2 z2
  d4 : D4 X.base X.B3 o w lv3 nv3 kv3 us
  d5 : D5 X.base o w X.l us
  d6 : D6 X.base X.TW o w X.k X.n X.s X.wv
  cv : vs.length = cv
  cu : us.length = cu
  cr : R.length = cr
  r1 : rows.length ≤ 1
  z1 : z1 ≤ 7001300 * (rows.length : Int)
  z2 : z2 ≤ 70014 * (R.length : Int)
  hl : X.l.length ≤ 63
def LSt (X : Cx) (cv cu cr : Nat) (w : World) : Prop := ∃ o rows lv1 nv1 kv1 z1 vs R lv2 z2 lv3 nv3 kv3 us, LStE X cv cu cr w o rows lv1 nv1 kv1 z1 vs R lv2 z2 lv3 nv3 kv3 us
section
variable {X : Cx} {cv cu cr : Nat} {w w' : World} {o : Nat → Nat} {rows : List Rw} {lv1 nv1 kv1 : Value} {z1 : Int} {vs : List Value} {R : List Rw} {lv2 : Value} {z2 : Int} {lv3 nv3 kv3 : Value} {us : List Value}
theorem LStE.below (h : LStE X cv cu cr w o rows lv1 nv1 kv1 z1 vs R lv2 z2 lv3 nv3 kv3 us) (hb : Below w.heap.size w w') (j : Nat) : LStE X cv cu cr w' (ext o w.heap.size j) rows lv1 nv1 kv1 z1 vs R lv2 z2 lv3 nv3 kv3 us := by
  have hc : Chg o 7 w w' := Chg.of_below hb
  have ho : ∀ g, g < w.heap.size → ext o w.heap.size j g = o g := fun g hg => ext_old hg
  exact ⟨h.d0.chg hc (by decide) ho, h.d1.chg hc (by decide) ho, h.d2.chg hc (by decide) ho, h.d3.chg hc (by decide) ho, h.d4.chg hc (by decide) ho, h.d5.chg hc (by decide) ho, h.d6.chg hc (by decide) ho, h.cv, h.cu, h.cr, h.r1, h.z1, h.z2, h.hl⟩
theorem LSt.below (h : LSt X cv cu cr w) (hb : Below w.heap.size w w') : LSt X cv cu cr w' := by
  obtain ⟨o, rows, lv1, nv1, kv1, z1, vs, R, lv2, z2, lv3, nv3, kv3, us, h⟩ := h
  exact ⟨_, _, _, _, _, _, _, _, _, _, _, _, _, _, h.below hb 7⟩
theorem LSt.base0 (h : LSt X cv cu cr w) : Below X.base X.W0 w := by
  obtain ⟨o, rows, lv1, nv1, kv1, z1, vs, R, lv2, z2, lv3, nv3, kv3, us, h⟩ := h
  exact h.d0.b
theorem LSt.want (h : LSt X cv cu cr w) : w.heap[X.TW]? = some (.cells (cells4 X.wv).toArray 24 (0, 0)) ∧ OutT X.base w X.k X.n X.s X.wv := by
  obtain ⟨o, rows, lv1, nv1, kv1, z1, vs, R, lv2, z2, lv3, nv3, kv3, us, h⟩ := h
  exact ⟨h.d6.c, h.d6.vv⟩
/-- Lists.Keep. -/
theorem LSt.call3 {w4 : World} {rs : List Rw} (h : LSt X cv cu cr w) (hb : Below w.heap.size w w4) (hrs : ∀ r ∈ rs, RowN w4 r ∧ w.heap.size ≤ r.1) (hnd : (rs.map (·.1)).Nodup) :
    ∃ (R : List Rw) (lv : Value) (z : Int), LKC X.base w4 X.B2 R rs lv z ∧ R.length = cr ∧ z ≤ 70014 * (R.length : Int) ∧ (∀ A, w.heap.size ≤ A → A ≠ X.B2 ∧ lv.ownBlock ≠ some A) ∧
      ∀ (w5 : World) (lv' : Value) (z' : Int), LKI X.base w4 X.B2 R rs lv rs.length lv' z' w5 → z' ≤ 70014 * ((R.length + rs.length : Nat) : Int) → LSt X cv cu (cr + rs.length) w5 := by
  obtain ⟨o, rows, lv1, nv1, kv1, z1, vs, R, lv2, z2, lv3, nv3, kv3, us, h⟩ := h
  have h4 := h.below hb 3
  have hlt := h.d3.b.lt
  have hfar : ∀ A, w.heap.size ≤ A → A ∉ lkB X.B2 R lv2 := fun A hA hm => by have := (hlt A hm).2; omega
  refine ⟨R, lv2, z2, ⟨h4.d3.b, hnd, fun r hr => ⟨(hrs r hr).1, Nat.le_trans h.d0.b.size (hrs r hr).2, hfar _ (hrs r hr).2⟩⟩, h.cr, h.z2, fun A hA => ⟨fun e => hfar A hA (mem_lkB.2 (.inl e)), fun e => hfar A hA (mem_lkB.2 (.inr (.inl e)))⟩, fun w5 lv' z' hI hz => ?_⟩
  have hbk := hI.bk
  rw [List.take_length] at hbk
  have hc : Chg (ext o w.heap.size 3) 3 w4 w5 := Chg.of_kbs hI.kb (fun g hg _ => h4.d3.t g (by
    simp only [List.mem_cons, Option.mem_toList, Option.mem_def] at hg
    rcases hg with hg | hg
    · exact mem_lkB.2 (.inl hg)
    · exact mem_lkB.2 (.inr (.inl hg))))
  have ho : ∀ g, g < w4.heap.size → ext (ext o w.heap.size 3) w4.heap.size 3 g = ext o w.heap.size 3 g := fun g hg => ext_old hg
  refine ⟨_, rows, lv1, nv1, kv1, z1, vs, R ++ rs, lv', z', lv3, nv3, kv3, us, h4.d0.chg hc (by decide) ho, h4.d1.chg hc (by decide) ho, h4.d2.chg hc (by decide) ho, ⟨hbk, fun g hg => ?_⟩, h4.d4.chg hc (by decide) ho, h4.d5.chg hc (by decide) ho, h4.d6.chg hc (by decide) ho, h.cv, h.cu, by rw [List.length_append, h.cr], h.r1, h.z1, by rw [List.length_append]; exact hz, h.hl⟩
  by_cases hg4 : g < w4.heap.size
  · rw [ho g hg4]
    rcases mem_lkB.1 hg with e | e | ⟨r, hr, e⟩
    · exact h4.d3.t g (mem_lkB.2 (.inl e))
    · rcases hI.nl g e with e | e
      · exact h4.d3.t g (mem_lkB.2 (.inr (.inl e)))
      · omega
    · rcases List.mem_append.1 hr with hr | hr
      · exact h4.d3.t g (mem_lkB.2 (.inr (.inr ⟨r, hr, e⟩)))
      · rw [← e]; exact ext_new (hrs r hr).2
  · exact ext_new (by omega)
/-- Paths.Keep. -/
theorem LSt.call4 {w4 : World} {xs : List Value} (h : LSt X cv cu cr w) (hb : Below w.heap.size w w4) (hxs : ∀ x ∈ xs, OwnPath w.heap.size w4 X.l x) (hnd : (xs.flatMap (·.ownBlock.toList)).Nodup) :
    ∃ (lv nv kv : Value) (us : List Value), BK P2 X.base w4 X.B3 [] lv nv kv 0 us.length us ∧ us.length = cu ∧ (∀ A, w.heap.size ≤ A → A ≠ X.B3 ∧ kv.ownBlock ≠ some A) ∧
      ∀ (w5 : World) (kv' : Value), KeepE P2 X.base X.B3 [] lv nv kv 0 (us.length + xs.length) (us ++ xs) w4 w5 kv' → LSt X cv (cu + xs.length) cr w5 := by
  obtain ⟨o, rows, lv1, nv1, kv1, z1, vs, R, lv2, z2, lv3, nv3, kv3, us, h⟩ := h
  have h4 := h.below hb 5
  have hlt := h.d4.b.lt
  have hfar : ∀ A, w.heap.size ≤ A → A ∉ bkB X.B3 [] lv3 nv3 kv3 := fun A hA hm => by have := (hlt A hm).2; omega
  refine ⟨lv3, nv3, kv3, us, h4.d4.b, h.cu, fun A hA => ⟨fun e => hfar A hA (mem_bkB.2 (.inl e)), fun e => hfar A hA (mem_bkB.2 (.inr (.inr (.inr (.inl e)))))⟩, fun w5 kv' hE => ?_⟩
  have hc : Chg (ext o w.heap.size 5) 4 w4 w5 := Chg.of_kbs hE.kb (fun g hg _ => h4.d4.t g (by
    simp only [List.mem_cons, Option.mem_toList, Option.mem_def] at hg
    rcases hg with hg | hg
    · exact mem_bkB.2 (.inl hg)
    · exact mem_bkB.2 (.inr (.inr (.inr (.inl hg))))))
  have ho : ∀ g, g < w4.heap.size → ext (ext o w.heap.size 5) w4.heap.size 4 g = ext o w.heap.size 5 g := fun g hg => ext_old hg
  have h5 : D5 X.base (ext o w.heap.size 5) w4 X.l (us ++ xs) := by
    refine ⟨fun u hu => ?_, fun u hu g hg => ?_, ?_⟩
    · rcases List.mem_append.1 hu with hu | hu
      · exact h4.d5.u u hu
      · exact (hxs u hu).mono h.d0.b.size
    · rcases List.mem_append.1 hu with hu | hu
      · exact h4.d5.t u hu g hg
      · exact ext_new ((hxs u hu).lt g hg).1
    · rw [List.flatMap_append, List.nodup_append]
      refine ⟨h.d5.nd, hnd, fun a ha b hb' hab => ?_⟩
      subst hab
      obtain ⟨u, hu, hau⟩ := List.mem_flatMap.1 ha
      obtain ⟨x, hx, hax⟩ := List.mem_flatMap.1 hb'
      have h1 := ((h.d5.u u hu).lt a (by simpa using hau)).2
      have h2 := ((hxs x hx).lt a (by simpa using hax)).1
      omega
  refine ⟨_, rows, lv1, nv1, kv1, z1, vs, R, lv2, z2, lv3, nv3, kv', us ++ xs, h4.d0.chg hc (by decide) ho, h4.d1.chg hc (by decide) ho, h4.d2.chg hc (by decide) ho, h4.d3.chg hc (by decide) ho, ⟨by rw [List.length_append]; exact hE.bk, fun g hg => ?_⟩, h5.chg hc (by decide) ho, h4.d6.chg hc (by decide) ho, h.cv, by rw [List.length_append, h.cu], h.cr, h.r1, h.z1, h.z2, h.hl⟩
  by_cases hg4 : g < w4.heap.size
  · rw [ho g hg4]
    rcases mem_bkB.1 hg with e | e | e | e | ⟨r, hr, e⟩
    · exact h4.d4.t g (mem_bkB.2 (.inl e))
    · exact h4.d4.t g (mem_bkB.2 (.inr (.inl e)))
    · exact h4.d4.t g (mem_bkB.2 (.inr (.inr (.inl e))))
    · rcases hE.nk g e with e | e
      · exact h4.d4.t g (mem_bkB.2 (.inr (.inr (.inr (.inl e)))))
      · omega
    · simp at hr
  · exact ext_new (by omega)
/-- Book.Keep. -/
theorem LSt.call1 {w4 : World} {v : Value} (h : LSt X cv cu cr w) (hb : Below w.heap.size w w4) (hv : OutT w.heap.size w4 X.k X.n X.s v) :
    ∃ (rows : List Rw) (lv nv kv : Value) (z : Int) (vs : List Value), BK P1 X.base w4 X.B1 rows lv nv kv z vs.length (vs.flatMap cells4) ∧ vs.length = cv ∧
      ∀ (w5 : World) (kv' : Value), KeepE P1 X.base X.B1 rows lv nv kv z (vs.length + 1) (vs.flatMap cells4 ++ cells4 v) w4 w5 kv' → LSt X (cv + 1) cu cr w5 := by
  obtain ⟨o, rows, lv1, nv1, kv1, z1, vs, R, lv2, z2, lv3, nv3, kv3, us, h⟩ := h
  have h4 := h.below hb 2
  refine ⟨rows, lv1, nv1, kv1, z1, vs, h4.d1.b, h.cv, fun w5 kv' hE => ?_⟩
  have hc : Chg (ext o w.heap.size 2) 1 w4 w5 := Chg.of_kbs hE.kb (fun g hg _ => h4.d1.t g (by
    simp only [List.mem_cons, Option.mem_toList, Option.mem_def] at hg
    rcases hg with hg | hg
    · exact mem_bkB.2 (.inl hg)
    · exact mem_bkB.2 (.inr (.inr (.inr (.inl hg))))))
  have ho : ∀ g, g < w4.heap.size → ext (ext o w.heap.size 2) w4.heap.size 1 g = ext o w.heap.size 2 g := fun g hg => ext_old hg
  have h5 : D2 X.base (ext o w.heap.size 2) w4 X.k X.n X.s (vs ++ [v]) := by
    refine ⟨fun u hu => ?_, fun u hu g hg => ?_, ?_⟩
    · rcases List.mem_append.1 hu with hu | hu
      · exact h4.d2.v u hu
      · simp at hu; subst hu
        exact hv.mono h.d0.b.size
    · rcases List.mem_append.1 hu with hu | hu
      · exact h4.d2.t u hu g hg
      · simp at hu; subst hu
        exact ext_new (hv.lt g hg).1
    · have hvn : (outB v).Nodup := by
        obtain ⟨kk, nn, ss, la, m, lc, rfl⟩ := hv.form
        simp only [outB]
        cases (Array.getD #[Value.string kk, .int .i64 nn, .string ss, .slice la m lc] 3 .nilIface).ownBlock <;> simp
      rw [List.flatMap_append, List.nodup_append]
      refine ⟨h.d2.nd, by simpa using hvn, fun a ha b hb' hab => ?_⟩
      subst hab
      obtain ⟨u, hu, hau⟩ := List.mem_flatMap.1 ha
      have h1 := ((h.d2.v u hu).lt a hau).2
      have h2 := (hv.lt a (by simpa using hb')).1
      omega
  refine ⟨_, rows, lv1, nv1, kv', z1, vs ++ [v], R, lv2, z2, lv3, nv3, kv3, us, h4.d0.chg hc (by decide) ho, ⟨by rw [List.length_append, List.flatMap_append]; simpa using hE.bk, fun g hg => ?_⟩, h5.chg hc (by decide) ho, h4.d3.chg hc (by decide) ho, h4.d4.chg hc (by decide) ho, h4.d5.chg hc (by decide) ho, h4.d6.chg hc (by decide) ho, by rw [List.length_append, h.cv]; rfl, h.cu, h.cr, h.r1, h.z1, h.z2, h.hl⟩
  by_cases hg4 : g < w4.heap.size
  · rw [ho g hg4]
    rcases mem_bkB.1 hg with e | e | e | e | ⟨r, hr, e⟩
    · exact h4.d1.t g (mem_bkB.2 (.inl e))
    · exact h4.d1.t g (mem_bkB.2 (.inr (.inl e)))
    · exact h4.d1.t g (mem_bkB.2 (.inr (.inr (.inl e))))
    · rcases hE.nk g e with e | e
      · exact h4.d1.t g (mem_bkB.2 (.inr (.inr (.inr (.inl e)))))
      · omega
    · exact h4.d1.t g (mem_bkB.2 (.inr (.inr (.inr (.inr ⟨r, hr, e⟩)))))
  · exact ext_new (by omega)
end
end

section
open Go.RowKit
set_option maxRecDepth 100000
def nilS : Value := .slice none 0 0
theorem bk_nil (P : BP) {base B : Nat} {w : World} (hc : BKc P w B nilS nilS 0 nilS) (hB : base ≤ B) : BK P base w B [] nilS nilS nilS 0 0 [] :=
  ⟨hc, ⟨by simp, .inl ⟨rfl, rfl⟩⟩, ⟨by simp, .inl ⟨rfl, rfl⟩⟩, ⟨by simp, .inl ⟨rfl, rfl⟩⟩, fun j r h => by simp at h, by omega, by simp [nilS, Value.ownBlock], hB, fun r h => by simp at h⟩
theorem lk_nil {base B : Nat} {w : World} (hc : w.heap[B]? = some (.cells #[nilS, .int .i64 0] 43 (0, 0))) (hB : base ≤ B) : LK base w B [] nilS 0 :=
  ⟨hc, ⟨by simp, .inl ⟨rfl, rfl⟩⟩, fun r h => by simp at h, by omega, by simp [nilS, Value.ownBlock], hB, fun r h => by simp at h⟩
/-- The books as they begin. -/
theorem lst_start {W0 w8 w9 : World} {k s : ByteArray} {n : Int} {l : List Int} {wv v : Value} {TW : Nat} {lv' nv' : Value} {z' : Int} (hb : Below W0.heap.size W0 w8)
    (c2 : w8.heap[W0.heap.size + 1]? = some (.cells #[nilS, .int .i64 0] 43 (0, 0))) (c3 : w8.heap[W0.heap.size + 2]? = some (.cells #[nilS, nilS, .int .i64 0, nilS] 47 (0, 0)))
    (hv : OutT (W0.heap.size + 3) w8 k n s v) (hT : w8.heap[TW]? = some (.cells (cells4 wv).toArray 24 (0, 0))) (hw : OutT (W0.heap.size + 3) w8 k n s wv) (hTW : W0.heap.size + 3 ≤ TW)
    (hd : ∀ g ∈ outB v, g ≠ TW ∧ g ∉ outB wv) (hE : TakeE W0.heap.size W0.heap.size [] (rowsOf v) nilS nilS nilS 0 [] 7001300 P1 w8 w9 lv' nv' z') (hl : l.length ≤ 63) :
    LSt ⟨W0, W0.heap.size, W0.heap.size + 1, W0.heap.size + 2, TW, k, n, s, l, wv⟩ 0 0 0 w9 := by
  have hrow := hv.tr.2.1
  have hTl : TW < w8.heap.size := (Array.getElem?_eq_some_iff.1 hT).1
  have hkeep : ∀ g, g < w8.heap.size → g ≠ W0.heap.size → g ∉ outB v → w9.heap[g]? = w8.heap[g]? := fun g h1 h2 h3 => hE.kb.block g h1 (fun hm => by
    rw [hrow] at hm
    simp [nilS, Value.ownBlock] at hm
    rcases hm with h | h
    · exact h2 h
    · exact h3 h)
  have hge : ∀ g ∈ outB v, W0.heap.size + 3 ≤ g ∧ g < w8.heap.size := hv.lt
  have hgw : ∀ g ∈ outB wv, W0.heap.size + 3 ≤ g ∧ g < w8.heap.size := hw.lt
  have l2 : W0.heap.size + 1 < w8.heap.size := (Array.getElem?_eq_some_iff.1 c2).1
  have l3 : W0.heap.size + 2 < w8.heap.size := (Array.getElem?_eq_some_iff.1 c3).1
  have n2 : W0.heap.size + 1 ∉ outB v := fun h => by have := (hge _ h).1; omega
  have n3 : W0.heap.size + 2 ∉ outB v := fun h => by have := (hge _ h).1; omega
  have hnl : ∀ (x : Value), (∀ g, x.ownBlock = some g → nilS.ownBlock = some g ∨ w8.heap.size ≤ g) → ∀ g, x.ownBlock = some g → w8.heap.size ≤ g := fun x h g e => by
    rcases h g e with h1 | h1
    · simp [nilS, Value.ownBlock] at h1
    · exact h1
  refine ⟨fun g => if g < W0.heap.size then 0 else if g = W0.heap.size then 1 else if g = W0.heap.size + 1 then 3 else if g = W0.heap.size + 2 then 4 else if g ∈ outB v then 1 else if g = TW ∨ g ∈ outB wv then 6 else 1,
    rowsOf v, lv', nv', nilS, z', [], [], nilS, 0, nilS, nilS, nilS, [], ⟨?_, fun g hg => if_pos hg⟩, ⟨?_, fun g hg => ?_⟩, ⟨by simp, by simp, by simp⟩, ⟨lk_nil ((hkeep _ l2 (by omega) n2).trans c2) (by show W0.heap.size ≤ W0.heap.size + 1; omega), fun g hg => ?_⟩,
    ⟨bk_nil P2 ((hkeep _ l3 (by omega) n3).trans c3) (by show W0.heap.size ≤ W0.heap.size + 2; omega), fun g hg => ?_⟩, ⟨by simp, by simp, by simp⟩, ⟨(hkeep _ hTl (by omega) (fun h => (hd _ h).1 rfl)).trans hT, (hw.mono (by show W0.heap.size ≤ _; omega)).keep (fun g hg => hkeep g (hgw g hg).2 (by have := (hgw g hg).1; omega) (fun h => (hd _ h).2 hg)), ?_, fun g hg => ?_⟩,
    rfl, rfl, rfl, hv.tr.2.2.1, by simpa using hE.z, by simp, hl⟩
  · have := hE.kb.below (B := W0.heap.size) (fun g hg => by
      rw [hrow] at hg
      simp [nilS, Value.ownBlock] at hg
      rcases hg with h | h
      · omega
      · have := (hge g h).1; omega) hb.size
    exact hb.trans this
  · have := hE.bk
    simpa using this
  · have hcase : g = W0.heap.size ∨ w8.heap.size ≤ g ∨ g ∈ outB v := by
      rcases mem_bkB.1 hg with e | e | e | e | ⟨r, hr, e⟩
      · exact .inl e
      · exact .inr (.inl (hnl _ hE.nl g e))
      · exact .inr (.inl (hnl _ hE.nn g e))
      · simp [nilS, Value.ownBlock] at e
      · exact .inr (.inr (by rw [← hrow, ← e]; exact List.mem_map.2 ⟨r, hr, rfl⟩))
    rcases hcase with rfl | h | h
    · rw [if_neg (by omega), if_pos rfl]
    · rw [if_neg (by omega), if_neg (by omega), if_neg (by omega), if_neg (by omega)]
      split
      · rfl
      · rw [if_neg (by
          rintro (e | e)
          · omega
          · have := (hgw g e).2; omega)]
    · have := (hge g h).1
      rw [if_neg (by omega), if_neg (by omega), if_neg (by omega), if_neg (by omega), if_pos h]
  · have : g = W0.heap.size + 1 := by simpa [lkB, nilS, Value.ownBlock] using hg
    subst this
    rw [if_neg (by omega), if_neg (by omega), if_pos rfl]
  · have : g = W0.heap.size + 2 := by simpa [bkB, nilS, Value.ownBlock] using hg
    subst this
    rw [if_neg (by omega), if_neg (by omega), if_neg (by omega), if_pos rfl]
  · have ht : ∀ g, g = TW → (if g < W0.heap.size then 0 else if g = W0.heap.size then 1 else if g = W0.heap.size + 1 then 3 else if g = W0.heap.size + 2 then 4 else if g ∈ outB v then 1 else if g = TW ∨ g ∈ outB wv then 6 else 1) = 6 := fun g e => by
      rw [if_neg (by omega), if_neg (by omega), if_neg (by omega), if_neg (by omega), if_neg (fun h => (hd _ h).1 e), if_pos (.inl e)]
    exact ht TW rfl
  · have := (hgw g hg).1
    rw [if_neg (by omega), if_neg (by omega), if_neg (by omega), if_neg (by omega), if_neg (fun h => (hd _ h).2 hg), if_pos (.inr hg)]
/-- A kept path. -/
def rowsP : Value → List Rw
  | .slice (some a) m lc => if 0 < lc then [(a.block, m, lc)] else []
  | _ => []
def ptOf (u : Value) : Tr := ⟨[u], rowsP u⟩
theorem own_pt {base : Nat} {w : World} {l : List Int} {u : Value} (h : OwnPath base w l u) (hl : l.length ≤ 63) : PtOk w (ptOf u) ∧ ((rowsP u).map (·.1)).Sublist u.ownBlock.toList := by
  rcases h.2 with ⟨rfl, h0⟩ | ⟨g, cap, cur, rfl, hb, hg, h1, h2, h3, _⟩
  · exact ⟨⟨none, 0, 0, rfl, by omega, by unfold maxLen; omega, .inr ⟨rfl, rfl⟩⟩, by simp [rowsP]⟩
  · by_cases hc : 0 < cap
    · have hrc := RowC.of hg
      rw [h3] at hrc
      have hr : rowsP (.slice (some ⟨g, 0, none⟩) l.length cap) = [(g, l.length, cap)] := by simp [rowsP, hc]
      refine ⟨⟨_, _, _, rfl, hl, h2, .inl ⟨hc, g, rfl, hr, _, hrc, h1, h2, ?_⟩⟩, by rw [hr]; simp [Value.ownBlock]⟩
      show l.length ≤ 70000
      omega
    · have hr : rowsP (.slice (some ⟨g, 0, none⟩) l.length cap) = [] := by simp [rowsP, hc]
      exact ⟨⟨_, _, _, rfl, hl, h2, .inr ⟨by omega, hr⟩⟩, by rw [hr]; simp⟩
section
variable {X : Cx} {cv cu cr : Nat} {w : World}
theorem LSt.whole1 (h : LSt X 2 cu cr w) : Calls Tryz.prog 19 #[.pointer (some ⟨X.B1, 0, none⟩)] w fun e w' => e = .returned (.bool true) ∧ ∃ o R lv2 z2 lv3 nv3 kv3 us, D0 X.W0 o w' ∧ D3 X.base X.B2 o w' R lv2 z2 ∧ D4 X.base X.B3 o w' lv3 nv3 kv3 us ∧ D5 X.base o w' X.l us ∧ R.length = cr ∧ us.length = cu := by
  obtain ⟨o, rows, lv1, nv1, kv1, z1, vs, R, lv2, z2, lv3, nv3, kv3, us, h⟩ := h
  have hk := h.d1.b.k
  rcases hk.2 with ⟨_, h0⟩ | ⟨A, kc, cur, hkv, _⟩
  · have := h.cv; omega
  · have hmap : ∀ l : List Value, (∀ v ∈ l, OutT X.base w X.k X.n X.s v) → (outs (l.map trOf)).map (·.1) = l.flatMap outB ∧ (outs (l.map trOf)).length ≤ l.length ∧ (l.map trOf).flatMap (·.x) = l.flatMap cells4 := fun l => by
      induction l with
      | nil => intro _; simp [outs]
      | cons v l ih =>
        intro hv
        obtain ⟨i1, i2, i3⟩ := ih (fun u hu => hv u (List.mem_cons_of_mem _ hu))
        obtain ⟨_, j1, j2, _⟩ := (hv v List.mem_cons_self).tr
        unfold outs at i1 i2 ⊢
        refine ⟨?_, ?_, ?_⟩
        · rw [List.map_cons, List.flatMap_cons, List.map_append, i1, List.flatMap_cons]
          show (rowsOf v).map (·.1) ++ _ = _
          rw [j1]
        · rw [List.map_cons, List.flatMap_cons, List.length_append, List.length_cons]
          have : (trOf v).rs.length ≤ 1 := j2
          omega
        · rw [List.map_cons, List.flatMap_cons, i3, List.flatMap_cons]; rfl
    obtain ⟨m1, m2, m3⟩ := hmap vs h.d2.v
    have hlen : (vs.map trOf).length = vs.length := List.length_map _
    have hcv := h.cv
    have hr1 := h.r1
    have htag : ∀ r ∈ outs (vs.map trOf), ∃ v ∈ vs, r.1 ∈ outB v := fun r hr => by
      have : r.1 ∈ (outs (vs.map trOf)).map (·.1) := List.mem_map.2 ⟨r, hr, rfl⟩
      rw [m1] at this
      exact List.mem_flatMap.1 this
    have hbk : BK P1 X.base w X.B1 rows lv1 nv1 (.slice (some ⟨A, 0, none⟩) (vs.map trOf).length kc) z1 (vs.map trOf).length ((vs.map trOf).flatMap (·.x)) := by
      rw [m3, hlen, ← hkv]; exact h.d1.b
    have hW := whole_any w X.base X.B1 A kc rows lv1 nv1 z1 (vs.map trOf) hbk (fun t ht => by
        obtain ⟨v, hv, rfl⟩ := List.mem_map.1 ht
        exact (h.d2.v v hv).tr.2.2.2.1) (fun t ht => by
        obtain ⟨v, hv, rfl⟩ := List.mem_map.1 ht
        exact (h.d2.v v hv).tr.1) (by omega) (by omega) (by rw [m1]; exact h.d2.nd) (fun r hr => by
        obtain ⟨v, hv, hg⟩ := htag r hr
        refine ⟨((h.d2.v v hv).lt _ hg).1, fun hm => ?_⟩
        rw [hlen, ← hkv] at hm
        have h1 := h.d1.t _ hm
        have h2 := h.d2.t v hv _ hg
        omega) h.z1
    refine hW.mono fun e w' ⟨he, hkb⟩ => ⟨he, ?_⟩
    rw [hlen, ← hkv] at hkb
    have hc : Chg (fun g => if o g = 2 then 1 else o g) 1 w w' := Chg.of_kbs hkb (fun g hg _ => by
      rcases List.mem_append.1 hg with hg | hg
      · simp [h.d1.t g hg]
      · rw [m1] at hg
        obtain ⟨v, hv, hgv⟩ := List.mem_flatMap.1 hg
        simp [h.d2.t v hv g hgv])
    have ho : ∀ g, g < w.heap.size → (fun g => if o g = 2 then 1 else o g) g = (fun g => if o g = 2 then 1 else o g) g := fun _ _ => rfl
    have e0 : D0 X.W0 (fun g => if o g = 2 then 1 else o g) w := ⟨h.d0.b, fun g hg => by simp [h.d0.t g hg]⟩
    have e3 : D3 X.base X.B2 (fun g => if o g = 2 then 1 else o g) w R lv2 z2 := ⟨h.d3.b, fun g hg => by simp [h.d3.t g hg]⟩
    have e4 : D4 X.base X.B3 (fun g => if o g = 2 then 1 else o g) w lv3 nv3 kv3 us := ⟨h.d4.b, fun g hg => by simp [h.d4.t g hg]⟩
    have e5 : D5 X.base (fun g => if o g = 2 then 1 else o g) w X.l us := ⟨h.d5.u, fun u hu g hg => by simp [h.d5.t u hu g hg], h.d5.nd⟩
    exact ⟨_, R, lv2, z2, lv3, nv3, kv3, us, e0.chg hc (by decide) ho, e3.chg hc (by decide) ho, e4.chg hc (by decide) ho, e5.chg hc (by decide) ho, h.cr, h.cu⟩
theorem whole2 {o : Nat → Nat} {R : List Rw} {lv2 : Value} {z2 : Int} {lv3 nv3 kv3 : Value} {us : List Value} (d0 : D0 X.W0 o w) (d3 : D3 X.base X.B2 o w R lv2 z2) (d4 : D4 X.base X.B3 o w lv3 nv3 kv3 us) (d5 : D5 X.base o w X.l us) (hR : R.length ≤ 6) :
    Calls Tryz.prog 20 #[.pointer (some ⟨X.B2, 0, none⟩)] w fun e w' => e = .returned (.bool true) ∧ D0 X.W0 o w' ∧ D4 X.base X.B3 o w' lv3 nv3 kv3 us ∧ D5 X.base o w' X.l us :=
  (apart_any w X.base X.B2 R lv2 z2 d3.b hR).mono fun e w' ⟨he, hkb⟩ => by
    have hc : Chg o 3 w w' := Chg.of_kbs hkb (fun g hg _ => d3.t g hg)
    exact ⟨he, d0.chg hc (by decide) (fun _ _ => rfl), d4.chg hc (by decide) (fun _ _ => rfl), d5.chg hc (by decide) (fun _ _ => rfl)⟩
theorem whole3 {o : Nat → Nat} {lv3 nv3 kv3 : Value} {us : List Value} (d0 : D0 X.W0 o w) (d4 : D4 X.base X.B3 o w lv3 nv3 kv3 us) (d5 : D5 X.base o w X.l us) (hu : us.length = 4) (hl : X.l.length ≤ 63) :
    Calls Tryz.prog 21 #[.pointer (some ⟨X.B3, 0, none⟩)] w fun e w' => e = .returned (.bool true) ∧ Below X.base X.W0 w' := by
  have hk := d4.b.k
  rcases hk.2 with ⟨_, h0⟩ | ⟨A, kc, cur, hkv, _⟩
  · omega
  · have hmap : ∀ l : List Value, (∀ v ∈ l, OwnPath X.base w X.l v) → ((outs (l.map ptOf)).map (·.1)).Sublist (l.flatMap (·.ownBlock.toList)) ∧ (l.map ptOf).flatMap (·.x) = l := fun l => by
      induction l with
      | nil => intro _; simp [outs]
      | cons v l ih =>
        intro hv
        obtain ⟨i1, i3⟩ := ih (fun u hu => hv u (List.mem_cons_of_mem _ hu))
        have j1 := (own_pt (hv v List.mem_cons_self) hl).2
        unfold outs at i1 ⊢
        refine ⟨?_, ?_⟩
        · rw [List.map_cons, List.flatMap_cons, List.map_append, List.flatMap_cons]
          exact List.Sublist.append j1 i1
        · rw [List.map_cons, List.flatMap_cons, i3]; rfl
    obtain ⟨m1, m3⟩ := hmap us d5.u
    have hlen : (us.map ptOf).length = us.length := List.length_map _
    have hbk : BK P2 X.base w X.B3 [] lv3 nv3 (.slice (some ⟨A, 0, none⟩) (us.map ptOf).length kc) 0 (us.map ptOf).length ((us.map ptOf).flatMap (·.x)) := by
      rw [m3, hlen, ← hkv]; exact d4.b
    have hW := pwhole_any w X.base X.B3 A kc lv3 nv3 (us.map ptOf) hbk (fun t ht => by
        obtain ⟨v, hv, rfl⟩ := List.mem_map.1 ht
        exact (own_pt (d5.u v hv) hl).1) (by omega) (m1.nodup d5.nd) (fun r hr => by
        have hm : r.1 ∈ us.flatMap (·.ownBlock.toList) := m1.subset (List.mem_map.2 ⟨r, hr, rfl⟩)
        obtain ⟨u, hu', hg⟩ := List.mem_flatMap.1 hm
        have hg' : u.ownBlock = some r.1 := by simpa using hg
        refine ⟨((d5.u u hu').lt _ hg').1, fun hm => ?_⟩
        rw [hlen, ← hkv] at hm
        have h1 := d4.t _ hm
        have h2 := d5.t u hu' _ hg'
        omega)
    exact hW.mono fun e w' ⟨he, hb⟩ => ⟨he, d0.b.trans hb⟩
end
end
end Go.Proofs.YtlpgfdhihimjaaaGreat
