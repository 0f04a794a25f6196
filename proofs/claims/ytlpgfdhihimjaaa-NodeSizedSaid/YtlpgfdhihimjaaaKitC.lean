/-
  Lay and Make; what the engine tells of the unit, of begun and of errors.
  Conditions: none.
-/
import Derived.Test.YtlpgfdhihimjaaaKitA
import Derived.Test.YtlpgfdhihimjaaaEng
set_option linter.unusedVariables false
set_option linter.unusedSimpArgs false
namespace Go.Proofs.Ytlpgfdhihimjaaa
section
open Go.RowKit
set_option maxRecDepth 100000
theorem heap_setA {w : World} {b j : Nat} {cs : Array Value} {t : TypeId} (h : w.heap[b]? = some (.cells cs t (0, 0))) (v : Value) : (w.setCell ⟨b, j, none⟩ v).heap[b]? = some (.cells (cs.set! j v) t (0, 0)) := by
  unfold World.setCell
  simp [Array.getElem?_modify, h]
theorem heap_set_ne {w : World} {b j g : Nat} (v : Value) (hg : g ≠ b) : (w.setCell ⟨b, j, none⟩ v).heap[g]? = w.heap[g]? := Below.heap_setCell _ _ _ _ (fun e => hg e)
theorem ownsRow_keep {w w' : World} {base e size n : Nat} {v : Value} {xs : List Value} (h : w.ownsRow base e size v n xs) (hk : ∀ g, v.ownBlock = some g → w'.heap[g]? = w.heap[g]?) : w'.ownsRow base e size v n xs := by
  refine ⟨h.1, ?_⟩
  rcases h.2 with hn | ⟨g, cap, cur, rfl, hb, hgg, rest⟩
  · exact .inl hn
  · exact .inr ⟨g, cap, cur, rfl, hb, by rw [hk g rfl]; exact hgg, rest⟩
theorem own_slice {w : World} {base e size n : Nat} {v : Value} {xs : List Value} (h : w.ownsRow base e size v n xs) : ∃ la lc, v = .slice la n lc := by
  rcases h.2 with ⟨rfl, rfl⟩ | ⟨g, cap, cur, rfl, _⟩
  · exact ⟨none, 0, rfl⟩
  · exact ⟨_, cap, rfl⟩
theorem info44 : (Try.prog.info? 44).map (fun i => (i.zero, i.size, i.bytes)) = some (some .nilIface, 1, 16) := by kernel_rfl
theorem one_new (w : World) (v : Value) (t : TypeId) : ∀ j u, [v][j]? = some u → (w.alloc (.cells #[v] t)).cell? ((⟨w.heap.size, 0, none⟩ : Addr).add j) = some u := by
  intro j u hu
  cases j with
  | zero =>
    have : v = u := by simpa using hu
    subst this
    have e : (⟨w.heap.size, 0, none⟩ : Addr).add 0 = ⟨w.heap.size, 0, none⟩ := by unfold Addr.add; simp
    rw [e, (heapcell (heap_alloc_new w (.cells #[v] t)) 0).1]
    rfl
  | succ j => simp at hu
/-- Handles in a row, with the nodes that they hold. -/
structure HsN (w : World) (hs : List Nat) (vs : List Value) (v : Value) : Prop where
  len : vs.length = hs.length
  arg : HsArg w hs v
  nodes : ∀ (j b : Nat), hs[j]? = some b → ∃ t u, vs[j]? = some (.iface t u) ∧ HdAt w b t u
theorem HsN.below {w w' : World} {hs : List Nat} {vs : List Value} {v : Value} (h : HsN w hs vs v) (hb : Below w.heap.size w w') : HsN w' hs vs v :=
  ⟨h.len, h.arg.below hb, fun j b hj => by
    obtain ⟨t, u, h1, h2⟩ := h.nodes j b hj
    exact ⟨t, u, h1, heap_keep h2 hb⟩⟩
/-- What is laid so far. -/
structure LayW (w : World) (R D : Nat) (k s : ByteArray) (vs : List Value) (j : Nat) (kv : Value) (wr : World) : Prop where
  d : wr.heap[D]? = some (.cells #[.string k, .int .i64 0, .string s, kv] 83 (0, 0))
  o : wr.ownsRow w.heap.size 44 1 kv j (vs.take j)
  ne : kv.ownBlock ≠ some D
  nb : w.heap.size ≤ D
  r : wr.heap[R]? = some (.cells #[.string ⟨#[]⟩, .int .i64 0, .string ⟨#[]⟩, .slice none 0 0] 83 (0, 0))
  nr : R ≠ D
  ner : kv.ownBlock ≠ some R
  nrb : w.heap.size ≤ R
  b : Below w.heap.size w wr
theorem LayW.next {w : World} {R D : Nat} {k s : ByteArray} {vs : List Value} {j g cap : Nat} {kv x : Value} {wr W w1 : World} (h : LayW w R D k s vs j kv wr) (hW : ∀ g, g < wr.heap.size → W.heap[g]? = wr.heap[g]?) (hWs : wr.heap.size < W.heap.size) (hWb : Below w.heap.size w W)
    (hx : vs[j]? = some x) (hown : w1.ownsRow w.heap.size 44 1 (.slice (some ⟨g, 0, none⟩) (j + 1) cap) (j + 1) (vs.take j ++ [x])) (hgrow : W.grownBy w1 kv.ownBlock) (hat : kv.ownBlock = some g ∨ g = W.heap.size) :
    LayW w R D k s vs (j + 1) (.slice (some ⟨g, 0, none⟩) (j + 1) cap) (w1.setCell ⟨D, 3, none⟩ (.slice (some ⟨g, 0, none⟩) (j + 1) cap)) := by
  have hD : D < wr.heap.size := (Array.getElem?_eq_some_iff.1 h.d).1
  have hgD : g ≠ D := by
    rcases hat with h1 | h1
    · intro e; subst e; exact h.ne h1
    · omega
  have hd1 : w1.heap[D]? = some (.cells #[.string k, .int .i64 0, .string s, kv] 83 (0, 0)) := by
    rw [hgrow.block D (by omega) (fun e => h.ne e.symm), hW D hD]; exact h.d
  have hR : R < wr.heap.size := (Array.getElem?_eq_some_iff.1 h.r).1
  have hgR : g ≠ R := by
    rcases hat with h1 | h1
    · intro e; subst e; exact h.ner h1
    · omega
  have hr1 : (w1.setCell ⟨D, 3, none⟩ (.slice (some ⟨g, 0, none⟩) (j + 1) cap)).heap[R]? = some (.cells #[.string ⟨#[]⟩, .int .i64 0, .string ⟨#[]⟩, .slice none 0 0] 83 (0, 0)) := by
    rw [heap_set_ne _ h.nr, hgrow.block R (by omega) (fun e => h.ner e.symm), hW R hR]; exact h.r
  refine ⟨heap_setA hd1 _, ?_, by simpa [Value.ownBlock] using hgD, h.nb, hr1, h.nr, by simpa [Value.ownBlock] using hgR, h.nrb, (hWb.grown hgrow hWb.size (fun g hg => (h.o.lt g hg).1)).setCell h.nb _⟩
  have ht : vs.take (j + 1) = vs.take j ++ [x] := by
    have hj : j < vs.length := (List.getElem?_eq_some_iff.1 hx).1
    rw [List.take_succ_eq_append_getElem hj]
    congr 2
    exact (List.getElem?_eq_some_iff.1 hx).2
  rw [ht]
  exact ownsRow_keep hown (fun b hb => heap_set_ne _ (by simp [Value.ownBlock] at hb; omega))
set_option maxHeartbeats 4000000 in
theorem lay_any (w : World) (k s : ByteArray) (hs : List Nat) (vs : List Value) (v : Value) (hv : HsN w hs vs v) (hn : hs.length ≤ 2000) :
    Calls Try.prog 25 #[.agg #[.string k, .int .i64 0, .string s, .slice none 0 0], v] w fun e w' => ∃ kv, e = .returned (.agg #[.string k, .int .i64 0, .string s, kv]) ∧ w'.ownsRow w.heap.size 44 1 kv hs.length vs ∧ Below w.heap.size w w' := by
  obtain ⟨i44, hi44, hy0, hy1, hy2⟩ := info_parts info44
  have HI := Lib.hid (And.intro hi44 (And.intro hy0 (And.intro hy1 hy2)))
  clear hi44 hy0 hy1 hy2
  obtain ⟨la, lc, rfl, _, _⟩ := hv.arg
  have HV := Lib.hid hv
  clear hv
  go_enter Try.func25, Try.ntmps25
  go_wp2_with fail
  have hst : LayW w (w.heap.size + 1) (w.heap.size + 1 + 1) k s vs 0 (.slice none 0 0) (((w.alloc (.cells #[.string k, .int .i64 0, .string s, .slice none 0 0] 36)).alloc (.cells #[.string ⟨#[]⟩, .int .i64 0, .string ⟨#[]⟩, .slice none 0 0] 83)).alloc (.cells #[.string k, .int .i64 0, .string s, .slice none 0 0] 83)) := by
    have h1 := heap_alloc_new (w.alloc (.cells #[.string k, .int .i64 0, .string s, .slice none 0 0] 36)) (.cells #[.string ⟨#[]⟩, .int .i64 0, .string ⟨#[]⟩, .slice none 0 0] 83)
    have h2 := heap_alloc_new ((w.alloc (.cells #[.string k, .int .i64 0, .string s, .slice none 0 0] 36)).alloc (.cells #[.string ⟨#[]⟩, .int .i64 0, .string ⟨#[]⟩, .slice none 0 0] 83)) (.cells #[.string k, .int .i64 0, .string s, .slice none 0 0] 83)
    simp only [World.size_alloc] at h1 h2
    refine ⟨h2, ⟨by simp, .inl ⟨rfl, rfl⟩⟩, by simp [Value.ownBlock], by omega, (Below.heap_alloc _ _ _ (by simp)).trans h1, by omega, by simp [Value.ownBlock], by omega, ((alloc_below w _).alloc (by simp) _).alloc (by simp; omega) _⟩
  have HST := Lib.hid hst
  clear hst
  generalize (((w.alloc (.cells #[.string k, .int .i64 0, .string s, .slice none 0 0] 36)).alloc (.cells #[.string ⟨#[]⟩, .int .i64 0, .string ⟨#[]⟩, .slice none 0 0] 83)).alloc (.cells #[.string k, .int .i64 0, .string s, .slice none 0 0] 83)) = w0 at HST ⊢
  obtain ⟨D, hD⟩ : ∃ D, D = w.heap.size + 1 + 1 := ⟨_, rfl⟩
  obtain ⟨R, hR⟩ : ∃ R, R = w.heap.size + 1 := ⟨_, rfl⟩
  rw [← hD, ← hR] at HST ⊢
  clear hD hR
  go_loopw [17] (fun jv wr => ∃ (j : Nat) (kv : Value), j ≤ hs.length ∧ jv = .int .i64 j ∧ Hid (LayW w R D k s vs j kv wr)) (fun jv _ => hs.length - (intOf jv).toNat)
  case atStart => exact ⟨0, _, by omega, rfl, HST⟩
  case round =>
    obtain ⟨j, kv, hj, rfl, HL⟩ := hrel
    obtain ⟨d3, f3⟩ := heapcell HL.out.d 3
    by_cases hlt : j < hs.length
    · have hltI : (j : Int) < (hs.length : Int) := by omega
      have hv1 := HV.out.below HL.out.b
      obtain ⟨la', lc', e, h1, h2⟩ := hv1.arg
      simp only [Value.slice.injEq, true_and] at e
      obtain ⟨rfl, rfl⟩ := e
      obtain ⟨g, rfl, h3⟩ := h1 (by omega)
      obtain ⟨t, u, hvj, hd⟩ := hv1.nodes j hs[j] (List.getElem?_eq_getElem hlt)
      have x0 := h3 j hs[j] (List.getElem?_eq_getElem hlt)
      generalize hs[j] = b at hd x0
      have HD := Lib.hid hd
      have HVJ := Lib.hid hvj
      obtain ⟨ka, kc, hk⟩ := own_slice HL.out.o
      subst hk
      have hDl : D < wr.heap.size := (Array.getElem?_eq_some_iff.1 HL.out.d).1
      have HDl := Lib.hid hDl
      have HO : Hid ((wr.drew).ownsRow w.heap.size 44 1 (.slice ka j kc) j (vs.take j)) := Lib.hid (ownsRow_keep HL.out.o (fun _ _ => rfl))
      have HN1 : Hid (∀ x ∈ [Value.iface t u], x.oneCell' = true) := Lib.hid (fun x hx => by simp at hx; subst hx; rfl)
      have HN2 : Hid (j + 1 ≤ maxLen) := Lib.hid (by unfold maxLen; omega)
      have HN3 : Hid ((j + 1) * 16 ≤ 140737488355328) := Lib.hid (by omega)
      have HN4 : Hid (w.heap.size ≤ ((wr.drew).alloc (.cells #[.iface t u] 44)).heap.size) := Lib.hid (by have := HL.out.b.size; rw [World.size_alloc]; exact Nat.le_succ_of_le this)
      have HN5 : Hid (D < ((wr.drew).alloc (.cells #[.iface t u] 44)).heap.size) := Lib.hid (by rw [World.size_alloc]; exact Nat.lt_succ_of_lt hDl)
      have HN6 : Hid (((wr.drew).alloc (.cells #[.iface t u] 44)).heap[D]? = some (.cells #[.string k, .int .i64 0, .string s, .slice ka j kc] 83 (0, 0))) := Lib.hid ((Below.heap_alloc wr.drew _ _ hDl).trans HL.out.d)
      have HN7 : Hid (some D ≠ (Value.slice ka j kc).ownBlock) := Lib.hid (fun e => HL.out.ne e.symm)
      have d3a : (wr.alloc (.cells #[.iface t u] 44)).cell? ⟨D, 3, none⟩ = some (.slice ka j kc) := (heapcell ((Below.heap_alloc wr _ _ hDl).trans HL.out.d) 3).1
      have HCN : Hid (Calls Try.prog 12 #[.pointer (some ⟨b, 0, none⟩)] wr.drew fun e w' => e = .returned (.iface t u) ∧ w' = wr.drew) := Lib.hid (node_any wr.drew b t u hd)
      clear h1 h2 h3 hd hvj hv1 hDl
      go_wp2_with fail
      go_region_law (first | (refine step_append_lies _ (by rfl) _ _ _ (by rfl) w.heap.size 44 i44 .nilIface 1 16 Try.underlying81 HI.out.1 HI.out.2.1 HI.out.2.2.1 HI.out.2.2.2 (by rfl) (by decide) _ _ _ (by rfl) (HO.out.alloc _) ⟨wr.heap.size, 0, none⟩ 1 1 [.iface t u] (by rfl) (by rfl) (one_new _ _ _) HN1.out (by decide) HN2.out HN3.out HN4.out _ rfl ?_; intro g2 cap2 w1 hown1 hgrow1 hat1 hlt1; have hq := (hgrow1.block D HN5.out HN7.out).trans HN6.out; obtain ⟨p3, f3'⟩ := heapcell hq 3) | (go_simp; go_at_call 12; refine HCN.out.mono ?_; rintro e w' ⟨rfl, rfl⟩))
      all_goals
        have HNX := Lib.hid (HL.out.next (W := (wr.drew).alloc (.cells #[.iface t u] 44)) (fun g hg => Below.heap_alloc wr.drew _ _ hg) (by simp) (HL.out.b.drew.alloc (by have := HL.out.b.size; exact this) _) HVJ.out hown1 hgrow1 hat1)
        clear hown1 hgrow1 hat1 hq
        go_wp2_with fail
        go_roundw
        case rel => exact ⟨j + 1, _, by omega, by go_num, HNX⟩
        case measure => simp [intOf]; omega
    · obtain rfl : j = hs.length := by omega
      have hltI : ¬ ((hs.length : Int) < (hs.length : Int)) := by omega
      obtain ⟨ka, kc, hk⟩ := own_slice HL.out.o
      subst hk
      obtain ⟨d0, _⟩ := heapcell HL.out.d 0
      obtain ⟨d1, _⟩ := heapcell HL.out.d 1
      obtain ⟨d2, _⟩ := heapcell HL.out.d 2
      obtain ⟨r0, q0⟩ := heapcell HL.out.r 0
      obtain ⟨r1, q1⟩ := heapcell HL.out.r 1
      obtain ⟨r2, q2⟩ := heapcell HL.out.r 2
      obtain ⟨r3, q3⟩ := heapcell HL.out.r 3
      go_wp2_with fail
      have hf : ((((wr.setCell ⟨R, 0, none⟩ (.string k)).setCell ⟨R, 1, none⟩ (.int .i64 0)).setCell ⟨R, 2, none⟩ (.string s)).setCell ⟨R, 3, none⟩ (.slice ka hs.length kc)).heap[R]? = some (.cells #[.string k, .int .i64 0, .string s, .slice ka hs.length kc] 83 (0, 0)) :=
        heap_setA (heap_setA (heap_setA (heap_setA HL.out.r _) _) _) _
      have ho : ((((wr.setCell ⟨R, 0, none⟩ (.string k)).setCell ⟨R, 1, none⟩ (.int .i64 0)).setCell ⟨R, 2, none⟩ (.string s)).setCell ⟨R, 3, none⟩ (.slice ka hs.length kc)).ownsRow w.heap.size 44 1 (.slice ka hs.length kc) hs.length vs := by
        have h := HL.out.o
        rw [List.take_of_length_le (by rw [HV.out.len]; exact Nat.le_refl _)] at h
        refine ownsRow_keep h (fun g hg => ?_)
        have hne : g ≠ R := fun e => HL.out.ner (e ▸ hg)
        rw [heap_set_ne _ hne, heap_set_ne _ hne, heap_set_ne _ hne, heap_set_ne _ hne]
      have hb : Below w.heap.size w ((((wr.setCell ⟨R, 0, none⟩ (.string k)).setCell ⟨R, 1, none⟩ (.int .i64 0)).setCell ⟨R, 2, none⟩ (.string s)).setCell ⟨R, 3, none⟩ (.slice ka hs.length kc)) :=
        (((HL.out.b.setCell HL.out.nrb _).setCell HL.out.nrb _).setCell HL.out.nrb _).setCell HL.out.nrb _
      generalize ((((wr.setCell ⟨R, 0, none⟩ (.string k)).setCell ⟨R, 1, none⟩ (.int .i64 0)).setCell ⟨R, 2, none⟩ (.string s)).setCell ⟨R, 3, none⟩ (.slice ka hs.length kc)) = W at hf ho hb ⊢
      obtain ⟨p0, _⟩ := heapcell hf 0
      obtain ⟨p1, _⟩ := heapcell hf 1
      obtain ⟨p2, _⟩ := heapcell hf 2
      obtain ⟨p3, _⟩ := heapcell hf 3
      exact bodyPost_ret (v := .agg #[.string k, .int .i64 0, .string s, .slice ka hs.length kc]) (by simp [results, Try.results25, go_sem, p0, p1, p2, p3]) rfl ⟨_, rfl, ho, hb⟩
end

section
open Go.RowKit
set_option maxRecDepth 100000
set_option maxHeartbeats 2000000 in
theorem make_frame_no (w : World) (hs : List Nat) (v : Value) (hv : HsArg w hs v) (hn : hs.length ≤ 2000) (hr : ¬ (1 ≤ hs.length ∧ hs.length ≤ 65)) :
    Calls Try.prog 10 #[.agg #[.string ⟨#[98, 97, 115, 101, 46, 102, 114, 97, 109, 101]⟩, .int .i64 0, .string ⟨#[]⟩, .slice none 0 0], v] w fun e w' => ∃ b, e = .returned (.tuple #[.pointer none, .iface 139 (.pointer (some ⟨b, 0, none⟩))]) ∧ w.heap.size ≤ b ∧ w'.heap[b]? = some (.cells #[.int .i64 11] 141 (0, 0)) ∧ Below w.heap.size w w' := by
  obtain ⟨la, lc, rfl, _, _⟩ := id hv
  have hb0 := alloc_below w (.cells #[.string ⟨#[98, 97, 115, 101, 46, 102, 114, 97, 109, 101]⟩, .int .i64 0, .string ⟨#[]⟩, .slice none 0 0] 36)
  have HF := Lib.hid (fits_frame _ hs _ (hv.below hb0) hn)
  have HB0 := Lib.hid hb0
  have HC := Lib.hid (show cntE hs.length = 11 from if_neg hr)
  clear hv hb0 hr
  go_enter Try.func10, Try.ntmps10
  go_wp2_with fail
  refine HF.out.mono ?_
  rintro e w1 ⟨rfl, hb1⟩
  rw [HC.out]
  have HB1 := Lib.hid (HB0.out.trans (hb1.mono (by simp)))
  clear hb1
  go_wp2_with fail
  refine (new_any w1 11 (by decide)).mono ?_
  rintro e w2 ⟨rfl, rfl⟩
  go_wp2_with fail
  go_ret2
  exact ⟨_, rfl, HB1.out.size, heap_alloc_new _ _, below_allocA HB1.out _⟩
set_option maxHeartbeats 2000000 in
theorem make_frame_ok (w : World) (hs : List Nat) (vs : List Value) (v : Value) (hv : HsN w hs vs v) (h1 : 1 ≤ hs.length) (h65 : hs.length ≤ 65) :
    Calls Try.prog 10 #[.agg #[.string ⟨#[98, 97, 115, 101, 46, 102, 114, 97, 109, 101]⟩, .int .i64 0, .string ⟨#[]⟩, .slice none 0 0], v] w fun e w' => ∃ hb nb kv, e = .returned (.tuple #[.pointer (some ⟨hb, 0, none⟩), .nilIface]) ∧ HdAt w' hb 91 (.pointer (some ⟨nb, 0, none⟩)) ∧
      w'.heap[nb]? = some (.cells #[.string ⟨#[98, 97, 115, 101, 46, 102, 114, 97, 109, 101]⟩, .int .i64 0, .string ⟨#[]⟩, kv] 95 (0, 0)) ∧ w'.ownsRow w.heap.size 44 1 kv hs.length vs ∧ w.heap.size ≤ hb ∧ Below w.heap.size w w' := by
  obtain ⟨la, lc, rfl, _, _⟩ := id hv.arg
  have hb0 := alloc_below w (.cells #[.string ⟨#[98, 97, 115, 101, 46, 102, 114, 97, 109, 101]⟩, .int .i64 0, .string ⟨#[]⟩, .slice none 0 0] 36)
  have ht0 := heap_alloc_new w (.cells #[.string ⟨#[98, 97, 115, 101, 46, 102, 114, 97, 109, 101]⟩, .int .i64 0, .string ⟨#[]⟩, .slice none 0 0] 36)
  have HC := Lib.hid (show cntE hs.length = 0 from if_pos ⟨h1, h65⟩)
  have HV := Lib.hid hv
  clear hv
  go_enter Try.func10, Try.ntmps10
  go_wp2_with fail
  generalize w.alloc (.cells #[.string ⟨#[98, 97, 115, 101, 46, 102, 114, 97, 109, 101]⟩, .int .i64 0, .string ⟨#[]⟩, .slice none 0 0] 36) = w0 at hb0 ht0 ⊢
  have HB0 := Lib.hid hb0
  have HT0 := Lib.hid ht0
  clear hb0 ht0
  refine (fits_frame w0 hs _ (HV.out.arg.below HB0.out) (by omega)).mono ?_
  rintro e w1 ⟨rfl, hb1⟩
  rw [HC.out]
  have HB1 := Lib.hid (HB0.out.trans (hb1.mono HB0.out.size))
  have HT1 := Lib.hid (heap_keep HT0.out hb1)
  obtain ⟨t0, _⟩ := heapcell HT1.out 0
  obtain ⟨t1, _⟩ := heapcell HT1.out 1
  obtain ⟨t2, _⟩ := heapcell HT1.out 2
  obtain ⟨t3, _⟩ := heapcell HT1.out 3
  clear hb1
  go_wp2_with fail
  refine (lay_any w1 ⟨#[98, 97, 115, 101, 46, 102, 114, 97, 109, 101]⟩ ⟨#[]⟩ hs vs _ (HV.out.below HB1.out) (by omega)).mono ?_
  rintro e w2 ⟨kv, rfl, ho, hb2⟩
  obtain ⟨ka, kc, rfl⟩ := own_slice ho
  have HO := Lib.hid ho
  have HB2 := Lib.hid (HB1.out.trans (hb2.mono HB1.out.size))
  have HT2 := Lib.hid (heap_keep HT1.out hb2)
  have HS1 := Lib.hid HB1.out.size
  obtain ⟨t0, _⟩ := heapcell HT2.out 0
  have hTl : w.heap.size < w2.heap.size := (Array.getElem?_eq_some_iff.1 HT2.out).1
  clear ho hb2 t1 t2 t3
  go_wp2_with fail
  refine (of_any _ _ _).mono ?_
  rintro e w3 ⟨rfl, rfl⟩
  go_wp2_with fail
  go_ret2
  refine ⟨w2.heap.size + 1 + 1, w2.heap.size + 1, .slice ka hs.length kc, rfl, ?_, ?_, ?_, ?_, ?_⟩
  · have h := heap_alloc_new ((w2.alloc (.cells #[.string ⟨#[98, 97, 115, 101, 46, 102, 114, 97, 109, 101]⟩, .int .i64 0, .string ⟨#[]⟩, .slice ka hs.length kc] 83)).alloc (.cells #[.string ⟨#[98, 97, 115, 101, 46, 102, 114, 97, 109, 101]⟩, .int .i64 0, .string ⟨#[]⟩, .slice ka hs.length kc] 95)) (.cells #[.iface 91 (.pointer (some ⟨w2.heap.size + 1, 0, none⟩))] 52)
    simp only [World.size_alloc] at h
    exact h
  · have h := heap_alloc_new (w2.alloc (.cells #[.string ⟨#[98, 97, 115, 101, 46, 102, 114, 97, 109, 101]⟩, .int .i64 0, .string ⟨#[]⟩, .slice ka hs.length kc] 83)) (.cells #[.string ⟨#[98, 97, 115, 101, 46, 102, 114, 97, 109, 101]⟩, .int .i64 0, .string ⟨#[]⟩, .slice ka hs.length kc] 95)
    simp only [World.size_alloc] at h
    exact (Below.heap_alloc _ _ _ (by simp)).trans h
  · have ho : w2.ownsRow w.heap.size 44 1 (.slice ka hs.length kc) hs.length vs := ⟨HO.out.1, HO.out.2.imp id (fun ⟨g, cap, cur, e, hb, r⟩ => ⟨g, cap, cur, e, Nat.le_trans HS1.out hb, r⟩)⟩
    exact ((ho.alloc _).alloc _).alloc _
  · have := HB2.out.size; simp; omega
  · exact below_allocA (below_allocA (below_allocA HB2.out _) _) _
def VarE (u : Bool) (ev : Value) : Prop := (u = true ∧ ev = .nilIface) ∨ (u = false ∧ ∃ x, ev = .iface 139 x)
theorem hsN_nil (w : World) : HsN w [] [] (.slice none 0 0) := ⟨rfl, ⟨none, 0, rfl, by simp, by simp⟩, by simp⟩
set_option maxHeartbeats 2000000 in
theorem make_var (w : World) (s : ByteArray) (hs : s.size ≤ 16384) (u : Bool) (hu : ∀ w', Calls Try.prog 40 #[.string s] w' (RetB w' (.bool u))) :
    Calls Try.prog 10 #[.agg #[.string ⟨#[98, 97, 115, 101, 46, 118, 97, 114]⟩, .int .i64 0, .string s, .slice none 0 0], .slice none 0 0] w fun e w' => ∃ hv ev, e = .returned (.tuple #[hv, ev]) ∧ VarE u ev ∧ Below w.heap.size w w' := by
  have hb0 := alloc_below w (.cells #[.string ⟨#[98, 97, 115, 101, 46, 118, 97, 114]⟩, .int .i64 0, .string s, .slice none 0 0] 36)
  have ht0 := heap_alloc_new w (.cells #[.string ⟨#[98, 97, 115, 101, 46, 118, 97, 114]⟩, .int .i64 0, .string s, .slice none 0 0] 36)
  have HU := Lib.hid hu
  clear hu
  go_enter Try.func10, Try.ntmps10
  go_wp2_with fail
  generalize w.alloc (.cells #[.string ⟨#[98, 97, 115, 101, 46, 118, 97, 114]⟩, .int .i64 0, .string s, .slice none 0 0] 36) = w0 at hb0 ht0 ⊢
  have HB0 := Lib.hid hb0
  have HT0 := Lib.hid ht0
  clear hb0 ht0
  refine (fits_var w0 s hs u HU.out).mono ?_
  rintro e w1 ⟨rfl, hb1⟩
  have HB1 := Lib.hid (HB0.out.trans (hb1.mono HB0.out.size))
  have HT1 := Lib.hid (heap_keep HT0.out hb1)
  obtain ⟨t0, _⟩ := heapcell HT1.out 0
  obtain ⟨t1, _⟩ := heapcell HT1.out 1
  obtain ⟨t2, _⟩ := heapcell HT1.out 2
  obtain ⟨t3, _⟩ := heapcell HT1.out 3
  clear hb1
  cases u
  · rw [show useE false = 12 from rfl]
    go_wp2_with fail
    refine (new_any w1 12 (by decide)).mono ?_
    rintro e w2 ⟨rfl, rfl⟩
    go_wp2_with fail
    go_ret2
    exact ⟨_, _, rfl, .inr ⟨rfl, _, rfl⟩, below_allocA HB1.out _⟩
  · rw [show useE true = 0 from rfl]
    go_wp2_with fail
    refine (lay_any w1 ⟨#[98, 97, 115, 101, 46, 118, 97, 114]⟩ s [] [] _ (hsN_nil w1) (by simp)).mono ?_
    rintro e w2 ⟨kv, rfl, ho, hb2⟩
    obtain ⟨ka, kc, rfl⟩ := own_slice ho
    have HB2 := Lib.hid (HB1.out.trans (hb2.mono HB1.out.size))
    have HT2 := Lib.hid (heap_keep HT1.out hb2)
    obtain ⟨t0, _⟩ := heapcell HT2.out 0
    have hTl : w.heap.size < w2.heap.size := (Array.getElem?_eq_some_iff.1 HT2.out).1
    clear ho hb2 t1 t2 t3
    go_wp2_with fail
    refine (of_any _ _ _).mono ?_
    rintro e w3 ⟨rfl, rfl⟩
    go_wp2_with fail
    go_ret2
    exact ⟨_, _, rfl, .inl ⟨rfl, rfl⟩, below_allocA (below_allocA (below_allocA HB2.out _) _) _⟩
end

section
open Go.RowKit
set_option maxRecDepth 100000
def unitChk : Option Eng.FR → Bool
  | some (.ret (.tup [.ptr a 0, .raw .nilIface]) h _) => match Eng.look h a with
    | some (.blk 52 [.iface 97 (.ptr b 0)] none) => match Eng.look h b with
      | some (.blk 107 cs none) => Eng.abL (cs.take 4) [.raw (.string ⟨#[98, 97, 115, 101, 46, 117, 110, 105, 116]⟩), .raw (.int .i64 0), .raw (.string ⟨#[]⟩), .raw (.slice none 0 0)]
      | _ => false
    | _ => false
  | _ => false
theorem unitChk_ok {r : Option Eng.FR} (hh : unitChk r = true) : ∃ a b h nx cs, r = some (.ret (.tup [.ptr a 0, .raw .nilIface]) h nx) ∧ Eng.look h a = some (.blk 52 [.iface 97 (.ptr b 0)] none) ∧ Eng.look h b = some (.blk 107 cs none) ∧
    cs.take 4 = [.raw (.string ⟨#[98, 97, 115, 101, 46, 117, 110, 105, 116]⟩), .raw (.int .i64 0), .raw (.string ⟨#[]⟩), .raw (.slice none 0 0)] := by
  unfold unitChk at hh
  split at hh
  · rename_i a h nx
    split at hh
    · rename_i b h1
      split at hh
      · rename_i cs h2
        exact ⟨a, b, h, nx, cs, rfl, h1, h2, Eng.abL_ok _ _ hh⟩
      · cases hh
    · cases hh
  · cases hh
theorem unit_told : unitChk (Eng.evF Try.prog 10000 100 10 [.raw (.agg #[.string ⟨#[98, 97, 115, 101, 46, 117, 110, 105, 116]⟩, .int .i64 0, .string ⟨#[]⟩, .slice none 0 0]), .raw (.slice none 0 0)] [] 0) = true := by kernel_rfl
/-- A literal node: its first four cells. -/
def LitAt (w : World) (nb : Nat) : Prop := ∃ cs : Array Value, w.heap[nb]? = some (.cells cs 107 (0, 0)) ∧ cs[0]? = some (.string ⟨#[98, 97, 115, 101, 46, 117, 110, 105, 116]⟩) ∧ cs[1]? = some (.int .i64 0) ∧ cs[2]? = some (.string ⟨#[]⟩) ∧ cs[3]? = some (.slice none 0 0)
theorem denL_take (E : Eng.Env) : ∀ (cs : List Eng.AV) (n : Nat), (Eng.denL E cs).take n = Eng.denL E (cs.take n)
  | [], n => by simp [Eng.denL]
  | c :: r, 0 => by simp [Eng.denL]
  | c :: r, n + 1 => by simp only [List.take_succ_cons, Eng.denL, denL_take E r n]
theorem unit_any (w : World) : Calls Try.prog 10 #[.agg #[.string ⟨#[98, 97, 115, 101, 46, 117, 110, 105, 116]⟩, .int .i64 0, .string ⟨#[]⟩, .slice none 0 0], .slice none 0 0] w fun e w' => ∃ hb nb, e = .returned (.tuple #[.pointer (some ⟨hb, 0, none⟩), .nilIface]) ∧
    HdAt w' hb 97 (.pointer (some ⟨nb, 0, none⟩)) ∧ LitAt w' nb ∧ w.heap.size ≤ hb ∧ Below w.heap.size w w' := by
  obtain ⟨a, b, h, nx, cs, hr, h1, h2, h3⟩ := unitChk_ok unit_told
  have H : Eng.HI w.heap.size w ⟨fun n => n, fun _ => 0⟩ [] 0 w := ⟨Below.refl _ _, Nat.le_refl _, fun n o hl => by simp [Eng.look] at hl, fun n m o o' hl => by simp [Eng.look] at hl⟩
  refine (Eng.evF_ok (by kernel_rfl) 10000 100 10 _ [] 0 _ hr w.heap.size w _ w H rfl).mono fun e w' hp => ?_
  cases e with
  | returned u =>
    obtain ⟨E', _, _, _, hu, h4⟩ := hp
    obtain ⟨_, g1, _, g2⟩ := h4.ent a _ h1
    obtain ⟨_, g3, _, g4⟩ := h4.ent b _ h2
    refine ⟨E'.ρ a, E'.ρ b, by rw [hu]; rfl, ?_, ⟨(Eng.denL E' cs).toArray, g4, ?_⟩, g1, h4.below⟩
    · exact g2
    · have ht : (Eng.denL E' cs).take 4 = [.string ⟨#[98, 97, 115, 101, 46, 117, 110, 105, 116]⟩, .int .i64 0, .string ⟨#[]⟩, .slice none 0 0] := by rw [denL_take, h3]; rfl
      have key : ∀ j, j < 4 → (Eng.denL E' cs).toArray[j]? = ((Eng.denL E' cs).take 4)[j]? := fun j hj => by
        rw [List.getElem?_take_of_lt hj]; simp
      rw [key 0 (by omega), key 1 (by omega), key 2 (by omega), key 3 (by omega), ht]
      exact ⟨rfl, rfl, rfl, rfl⟩
  | panicked c => exact hp.elim
  | outgrown => exact hp.elim
theorem begun_told : Eng.isTrue (Eng.evF Try.prog 10000 100 8 [] [] 0) = true := by kernel_rfl
theorem begun_any (w : World) : Calls Try.prog 8 #[] w fun e w' => e = .returned (.bool true) ∧ Below w.heap.size w w' := Eng.evF_closed (by kernel_rfl) (Eng.isTrue_ok begun_told)
theorem is_eng (c : Int) (hc : Eng.isTrue (Eng.evF Try.prog 10000 100 11 [.iface 139 (.ptr 0 0), .raw (.int .i64 c)] [(0, .blk 141 [.raw (.int .i64 c)] none)] 1) = true) (w : World) (b : Nat) (hb : w.heap[b]? = some (.cells #[.int .i64 c] 141 (0, 0))) :
    Calls Try.prog 11 #[.iface 139 (.pointer (some ⟨b, 0, none⟩)), .int .i64 c] w fun e w' => e = .returned (.bool true) ∧ Below b w w' := by
  obtain ⟨h, nx, hr⟩ := Eng.isTrue_ok hc
  have hlt : b < w.heap.size := (Array.getElem?_eq_some_iff.1 hb).1
  have H : Eng.HI b w ⟨fun _ => b, fun _ => 0⟩ [(0, .blk 141 [.raw (.int .i64 c)] none)] 1 w := by
    have hk : ∀ n o, Eng.look [(0, Eng.AObj.blk 141 [.raw (.int .i64 c)] none)] n = some o → n = 0 ∧ o = .blk 141 [.raw (.int .i64 c)] none := fun n o hl => by
      cases n with
      | zero => simp [Eng.look] at hl; exact ⟨rfl, hl.symm⟩
      | succ n => exact absurd (show (none : Option Eng.AObj) = some o from hl) (by simp)
    refine ⟨Below.refl _ _, Nat.le_of_lt hlt, fun n o hl => ?_, fun n m o o' hl hm _ => ?_⟩
    · obtain ⟨rfl, rfl⟩ := hk n o hl
      exact ⟨by omega, Nat.le_refl _, rfl, hb⟩
    · rw [(hk n o hl).1, (hk m o' hm).1]
  refine (Eng.evF_ok (by kernel_rfl) 10000 100 11 _ _ 1 _ hr b w _ w H rfl).mono fun e w' hp => ?_
  cases e with
  | returned u =>
    obtain ⟨E', _, _, _, hu, h4⟩ := hp
    exact ⟨by rw [hu]; rfl, h4.below⟩
  | panicked c => exact hp.elim
  | outgrown => exact hp.elim
theorem is_11 (w : World) (b : Nat) (hb : w.heap[b]? = some (.cells #[.int .i64 11] 141 (0, 0))) : Calls Try.prog 11 #[.iface 139 (.pointer (some ⟨b, 0, none⟩)), .int .i64 11] w fun e w' => e = .returned (.bool true) ∧ Below b w w' :=
  is_eng 11 (by kernel_rfl) w b hb
theorem is_2 (w : World) (b : Nat) (hb : w.heap[b]? = some (.cells #[.int .i64 2] 141 (0, 0))) : Calls Try.prog 11 #[.iface 139 (.pointer (some ⟨b, 0, none⟩)), .int .i64 2] w fun e w' => e = .returned (.bool true) ∧ Below b w w' :=
  is_eng 2 (by kernel_rfl) w b hb
end
end Go.Proofs.Ytlpgfdhihimjaaa
