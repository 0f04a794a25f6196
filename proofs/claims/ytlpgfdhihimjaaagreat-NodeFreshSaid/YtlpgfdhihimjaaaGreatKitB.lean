/-
  Plain, own copies, equality of trees, places and names; the book of trees: walks by the kit.
  Conditions: none.
-/
import Derived.Test.YtlpgfdhihimjaaaGreatKitA
import Derived.Laws.EntriesVeiled
import Derived.BigQuiet
import Derived.Deep.QuietTactic
import Derived.Lib.ItoaNum
set_option linter.unusedVariables false
set_option linter.unusedSimpArgs false
namespace Go.Proofs.YtlpgfdhihimjaaaGreat
section
open Go.RowKit
set_option maxRecDepth 100000
/-- A row of trees that are all one leaf. -/
def KidsAt (w : World) (la : Option Addr) (m : Nat) (k : ByteArray) (n : Int) (s : ByteArray) : Prop := 0 < m → ∃ g, la = some ⟨g, 0, none⟩ ∧ g < w.heap.size ∧ ∀ i, i < m → w.cell? ⟨g, i * 4, none⟩ = some (.string k) ∧ w.cell? ⟨g, i * 4 + 1, none⟩ = some (.int .i64 n) ∧ w.cell? ⟨g, i * 4 + 2, none⟩ = some (.string s) ∧ w.cell? ⟨g, i * 4 + 3, none⟩ = some (.slice none 0 0)
theorem KidsAt.below {w w' : World} {la : Option Addr} {m : Nat} {k s : ByteArray} {n : Int} (h : KidsAt w la m k n s) (hb : Below w.heap.size w w') : KidsAt w' la m k n s := fun h0 => by
  obtain ⟨g, e, h1, h2⟩ := h h0
  refine ⟨g, e, Nat.lt_of_lt_of_le h1 hb.size, fun i hi => ?_⟩
  obtain ⟨a, b, c, d⟩ := h2 i hi
  exact ⟨cell_stepA a hb, cell_stepA b hb, cell_stepA c hb, cell_stepA d hb⟩
theorem reps_get (x : List Value) (hx : x.length = 4) : ∀ (m i q : Nat), i < m → q < 4 → (reps x m)[i * 4 + q]? = x[q]?
  | m + 1, i, q, hi, hq => by
    have hl : ∀ j, (reps x j).length = j * 4 := fun j => by
      induction j with
      | zero => rfl
      | succ j ih => simp only [reps, List.length_append, ih, hx]; omega
    rcases Nat.lt_or_ge i m with h | h
    · rw [reps, List.getElem?_append_left (by rw [hl]; omega)]
      exact reps_get x hx m i q h hq
    · obtain rfl : i = m := by omega
      rw [reps, List.getElem?_append_right (by rw [hl]; omega), hl]
      congr 1; omega
theorem own_kids {w : World} {base : Nat} {kv : Value} {m : Nat} {k s : ByteArray} {n : Int} (h : w.ownsRow base 24 4 kv m (reps (leafC k n s) m)) : ∃ la lc, kv = .slice la m lc ∧ KidsAt w la m k n s := by
  obtain ⟨la, lc, rfl⟩ := own_slice h
  refine ⟨la, lc, rfl, fun h0 => ?_⟩
  rcases h.2 with ⟨e, h1⟩ | ⟨g, cap, cur, e, hb, hg, _⟩
  · omega
  · simp only [Value.slice.injEq, true_and] at e
    obtain ⟨rfl, rfl⟩ := e
    have hc : ∀ i q, i < m → q < 4 → w.cell? ⟨g, i * 4 + q, none⟩ = (leafC k n s)[q]? := fun i q hi hq => by
      have hr := reps_get (leafC k n s) rfl m i q hi hq
      have hq' : (leafC k n s)[q]? = some ((leafC k n s)[q]'(by simpa [leafC] using hq)) := List.getElem?_eq_getElem _
      rw [hq'] at hr ⊢
      have := h.cells (g := g) rfl (i * 4 + q) _ hr
      rwa [addr_add0] at this
    refine ⟨g, rfl, (Array.getElem?_eq_some_iff.1 hg).1, fun i hi => ⟨?_, ?_, ?_, ?_⟩⟩
    · exact hc i 0 hi (by omega)
    · exact hc i 1 hi (by omega)
    · exact hc i 2 hi (by omega)
    · exact hc i 3 hi (by omega)
theorem drop0 (w : World) (a b c d : Value) (t : TypeId) : (w.alloc (.cells #[a, b, c, d] t)).heap[w.heap.size]? = some (.cells #[a, b, c, d] t (0, 0)) := heap_alloc_new _ _
/-- Where 'Own' stands. -/
structure OwW (w : World) (T R : Nat) (k : ByteArray) (n : Int) (s : ByteArray) (kv sv : Value) (i : Nat) (xs : List Value) (wr : World) : Prop where
  t : wr.heap[T]? = some (.cells #[.string k, .int .i64 n, .string s, kv] 24 (0, 0))
  r : wr.heap[R]? = some (.cells #[.string ⟨#[]⟩, .int .i64 0, .string ⟨#[]⟩, .slice none 0 0] 24 (0, 0))
  o : wr.ownsRow w.heap.size 24 4 sv i xs
  tn : w.heap.size ≤ T
  rn : w.heap.size ≤ R
  tr : T ≠ R
  ot : sv.ownBlock ≠ some T
  oR : sv.ownBlock ≠ some R
  b : Below w.heap.size w wr
theorem OwW.below {w : World} {T R : Nat} {k : ByteArray} {n : Int} {s : ByteArray} {kv sv : Value} {i : Nat} {xs : List Value} {wr w' : World} (h : OwW w T R k n s kv sv i xs wr) (hb : Below wr.heap.size wr w') : OwW w T R k n s kv sv i xs w' :=
  ⟨heap_keep h.t hb, heap_keep h.r hb, ownsRow_keep h.o (fun g e => hb.block g (h.o.lt g e).2), h.tn, h.rn, h.tr, h.ot, h.oR, h.b.trans (hb.mono h.b.size)⟩
theorem OwW.push {w : World} {T R : Nat} {k : ByteArray} {n : Int} {s : ByteArray} {kv sv sv' : Value} {i : Nat} {xs ys : List Value} {wr w1 w2 : World} (h : OwW w T R k n s kv sv i xs wr) (hb : Below wr.heap.size wr w1) (hg : w1.grownBy w2 sv.ownBlock)
    (ho : w2.ownsRow w.heap.size 24 4 sv' (i + 1) ys) (hblk : sv'.ownBlock = sv.ownBlock ∨ sv'.ownBlock = some w1.heap.size) : OwW w T R k n s kv sv' (i + 1) ys w2 := by
  have h1 := h.below hb
  have hT := (Array.getElem?_eq_some_iff.1 h1.t).1
  have hR := (Array.getElem?_eq_some_iff.1 h1.r).1
  have ne : ∀ g, g < w1.heap.size → sv.ownBlock ≠ some g → sv'.ownBlock ≠ some g := fun g h1 h2 e => by
    rcases hblk with h3 | h3
    · exact h2 (h3.symm.trans e)
    · rw [h3] at e; simp at e; omega
  exact ⟨(hg.block T hT (fun e => h1.ot e.symm)).trans h1.t, (hg.block R hR (fun e => h1.oR e.symm)).trans h1.r, ho, h1.tn, h1.rn, h1.tr, ne T hT h1.ot, ne R hR h1.oR, h1.b.grown hg h1.b.size (fun g e => (h1.o.lt g e).1)⟩
set_option maxHeartbeats 8000000 in
theorem own_gen (w : World) (k : ByteArray) (n : Int) (s : ByteArray) (la : Option Addr) (m lc : Nat) (kx : ByteArray) (nx : Int) (sx : ByteArray) (hm : m ≤ 3) (hk : KidsAt w la m kx nx sx)
    (hrec : 0 < m → ∀ W, Calls Tryz.prog 9 #[.agg #[.string kx, .int .i64 nx, .string sx, .slice none 0 0]] W fun e w' => e = .returned (.agg #[.string kx, .int .i64 nx, .string sx, .slice none 0 0]) ∧ Below W.heap.size W w') :
    Calls Tryz.prog 9 #[.agg #[.string k, .int .i64 n, .string s, .slice la m lc]] w fun e w' => ∃ v, e = .returned v ∧ TreeV w.heap.size w' k n s m (leafC kx nx sx) v ∧ Below w.heap.size w w' := by
  obtain ⟨i24, hi24, hy0, hy1, hy2⟩ := info_parts info24
  have HI := Lib.hid (And.intro hi24 (And.intro hy0 (And.intro hy1 hy2)))
  have HK := Lib.hid hk
  have HREC := Lib.hid hrec
  clear hi24 hy0 hy1 hy2 hk hrec
  go_enter Tryz.func9, Tryz.ntmps9
  go_wp2_with fail
  have hst : Hid (OwW w w.heap.size (w.heap.size + 1) k n s (.slice la m lc) (.slice none 0 0) 0 [] ((w.alloc (.cells #[.string k, .int .i64 n, .string s, .slice la m lc] 24)).alloc (.cells #[.string ⟨#[]⟩, .int .i64 0, .string ⟨#[]⟩, .slice none 0 0] 24))) := Lib.hid (by
    have h1 := heap_alloc_new w (.cells #[.string k, .int .i64 n, .string s, .slice la m lc] 24)
    have h2 := heap_alloc_new (w.alloc (.cells #[.string k, .int .i64 n, .string s, .slice la m lc] 24)) (.cells #[.string ⟨#[]⟩, .int .i64 0, .string ⟨#[]⟩, .slice none 0 0] 24)
    simp only [World.size_alloc] at h2
    exact ⟨(Below.heap_alloc _ _ _ (by simp)).trans h1, h2, ⟨rfl, .inl ⟨rfl, rfl⟩⟩, Nat.le_refl _, by omega, by omega, by simp [Value.ownBlock], by simp [Value.ownBlock], below_allocA (alloc_below w _) _⟩)
  generalize ((w.alloc (.cells #[.string k, .int .i64 n, .string s, .slice la m lc] 24)).alloc (.cells #[.string ⟨#[]⟩, .int .i64 0, .string ⟨#[]⟩, .slice none 0 0] 24)) = w0 at hst ⊢
  obtain ⟨T, hT⟩ : ∃ T, T = w.heap.size := ⟨_, rfl⟩
  obtain ⟨R, hR⟩ : ∃ R, R = w.heap.size + 1 := ⟨_, rfl⟩
  rw [show OwW w w.heap.size (w.heap.size + 1) = OwW w T R from by rw [hT, hR]] at hst
  simp only [← hT, ← hR]
  rw [← hT] at hR
  simp only [← hR]
  clear hT hR
  go_loopw [3, 4] (fun sv iv wr => ∃ (i : Nat), i ≤ m ∧ iv = .int .i64 i ∧ Hid (i = 0 → sv = .slice none 0 0) ∧ Hid (OwW w T R k n s (.slice la m lc) sv i (reps (leafC kx nx sx) i) wr)) (fun _ iv _ => m - (intOf iv).toNat)
  case atStart => exact ⟨0, by omega, rfl, Lib.hid (fun _ => rfl), hst⟩
  case round =>
    obtain ⟨i, hi, rfl, HS0, HX⟩ := hrel
    obtain ⟨t3, f3⟩ := heapcell HX.out.t 3
    by_cases hlt : i < m
    · have hltI : (i : Int) < (m : Int) := by omega
      obtain ⟨g, rfl, hgl, hg⟩ := (HK.out.below HX.out.b) (by omega)
      obtain ⟨g0, g1, g2, g3⟩ := hg i hlt
      clear hg
      go_wp2_with fail
      refine (HREC.out (by omega) _).mono ?_
      rintro e w3 ⟨rfl, hb3⟩
      have HX3 := Lib.hid (HX.out.below hb3)
      clear hb3 HX g0 g1 g2 g3 t3 f3 hgl
      go_upto_region 6 with fail
      have hb4 := alloc_below w3 (.cells #[.string kx, .int .i64 nx, .string sx, .slice none 0 0] 24)
      have hm4 := heap_alloc_new w3 (.cells #[.string kx, .int .i64 nx, .string sx, .slice none 0 0] 24)
      have HX4 := Lib.hid (HX3.out.below hb4)
      generalize w3.alloc (.cells #[.string kx, .int .i64 nx, .string sx, .slice none 0 0] 24) = W4 at hb4 hm4 HX4 ⊢
      generalize w3.heap.size = M at hm4 ⊢
      obtain ⟨m0, _⟩ := heapcell hm4 0
      obtain ⟨m1', _⟩ := heapcell hm4 1
      obtain ⟨m2', _⟩ := heapcell hm4 2
      obtain ⟨m3', _⟩ := heapcell hm4 3
      obtain ⟨ka, kc, hks⟩ := own_slice HX4.out.o
      subst hks
      have HO : Hid ((W4.alloc (.cells #[.string kx, .int .i64 nx, .string sx, .slice none 0 0] 24)).ownsRow w.heap.size 24 4 (.slice ka i kc) i (reps (leafC kx nx sx) i)) := Lib.hid (HX4.out.o.alloc _)
      have HSZ : Hid (w.heap.size ≤ (W4.alloc (.cells #[.string kx, .int .i64 nx, .string sx, .slice none 0 0] 24)).heap.size) := Lib.hid (by have := HX4.out.b.size; rw [World.size_alloc]; omega)
      clear hb4 hm4 HX3
      go_wp2_with (at_builtin; refine wpList_append_own_at _ rfl _ _ 22 rfl w.heap.size 24 i24 (.agg #[.string ⟨#[]⟩, .int .i64 0, .string ⟨#[]⟩, .slice none 0 0]) 4 64 Tryz.underlying22 HI.out.1 HI.out.2.1 HI.out.2.2.1 HI.out.2.2.2 rfl (by decide) _ _ _ rfl HO.out ⟨W4.heap.size, 0, none⟩ 1 1 [.string kx, .int .i64 nx, .string sx, .slice none 0 0] rfl rfl ?c1 ?c2 ?c3 ?c4 HSZ.out ?_)
      case c1 => exact four_new _ _ _ _ _ _
      case c2 => intro u hu; simp at hu; rcases hu with rfl | rfl | rfl | rfl <;> rfl
      case c3 => unfold maxLen; omega
      case c4 => omega
      intro kv' w5 hown hgrow _ hblk
      obtain ⟨ka', kc2, hks⟩ := own_slice hown
      subst hks
      have HP := Lib.hid (HX4.out.push (alloc_below W4 _) hgrow hown (by simpa using hblk))
      clear hown hgrow hblk
      go_wp2_with fail
      go_roundw
      case rel => exact ⟨i + 1, by omega, by go_num, Lib.hid (fun h => by omega), HP⟩
      case measure => simp [intOf]; omega
    · obtain rfl : i = m := by omega
      have hltI : ¬ (i : Int) < (i : Int) := by omega
      obtain ⟨ka, kc, hks⟩ := own_slice HX.out.o
      subst hks
      have hT3 : (wr.setCell ⟨T, 3, none⟩ (.slice ka i kc)).heap[T]? = some (.cells #[.string k, .int .i64 n, .string s, .slice ka i kc] 24 (0, 0)) := heap_setA HX.out.t _
      have hR3 : (wr.setCell ⟨T, 3, none⟩ (.slice ka i kc)).heap[R]? = some (.cells #[.string ⟨#[]⟩, .int .i64 0, .string ⟨#[]⟩, .slice none 0 0] 24 (0, 0)) := (heap_set_ne _ (fun e => HX.out.tr e.symm)).trans HX.out.r
      have ho3 : (wr.setCell ⟨T, 3, none⟩ (.slice ka i kc)).ownsRow w.heap.size 24 4 (.slice ka i kc) i (reps (leafC kx nx sx) i) := ownsRow_keep HX.out.o (fun g e => heap_set_ne _ (fun e2 => HX.out.ot (e2 ▸ e)))
      have hB3 : Below w.heap.size w (wr.setCell ⟨T, 3, none⟩ (.slice ka i kc)) := HX.out.b.setCell HX.out.tn _
      go_upto_region 8 with fail
      have HOR : Hid ((Value.slice ka i kc).ownBlock ≠ some R ∧ w.heap.size ≤ R) := Lib.hid ⟨HX.out.oR, HX.out.rn⟩
      generalize (wr.setCell ⟨T, 3, none⟩ (.slice ka i kc)) = W3 at hT3 hR3 ho3 hB3 ⊢
      obtain ⟨d0, _⟩ := heapcell hT3 0
      obtain ⟨d1, _⟩ := heapcell hT3 1
      obtain ⟨d2, _⟩ := heapcell hT3 2
      obtain ⟨d3, _⟩ := heapcell hT3 3
      obtain ⟨r0, e0⟩ := heapcell hR3 0
      obtain ⟨r1, e1⟩ := heapcell hR3 1
      obtain ⟨r2, e2⟩ := heapcell hR3 2
      obtain ⟨r3, e3⟩ := heapcell hR3 3
      have HT3 := Lib.hid hT3
      have HR3 := Lib.hid hR3
      have HO3 := Lib.hid ho3
      have HB3 := Lib.hid hB3
      clear hT3 hR3 ho3 hB3 t3 f3 HX
      go_wp2_with fail
      have hz := set4 HB3.out HOR.out.2 HR3.out (.string k) (.int .i64 n) (.string s) (.slice ka i kc)
      generalize (((W3.setCell ⟨R, 0, none⟩ (.string k)).setCell ⟨R, 1, none⟩ (.int .i64 n)).setCell ⟨R, 2, none⟩ (.string s)).setCell ⟨R, 3, none⟩ (.slice ka i kc) = W5 at hz ⊢
      obtain ⟨z1, z2, z4⟩ := hz
      obtain ⟨p0, _⟩ := heapcell z1 0
      obtain ⟨p1, _⟩ := heapcell z1 1
      obtain ⟨p2, _⟩ := heapcell z1 2
      obtain ⟨p3, _⟩ := heapcell z1 3
      exact bodyPost_ret (v := .agg #[.string k, .int .i64 n, .string s, .slice ka i kc]) (by simp [results, Tryz.results9, go_sem, p0, p1, p2, p3]) rfl ⟨_, rfl, ⟨_, rfl, ownsRow_keep HO3.out (fun g e => z4 g (fun e2 => HOR.out.1 (e2 ▸ e))), fun h => HS0.out h⟩, z2⟩
theorem own_leaf (w : World) (k : ByteArray) (n : Int) (s : ByteArray) : Calls Tryz.prog 9 #[.agg #[.string k, .int .i64 n, .string s, .slice none 0 0]] w fun e w' => e = .returned (.agg #[.string k, .int .i64 n, .string s, .slice none 0 0]) ∧ Below w.heap.size w w' :=
  (own_gen w k n s none 0 0 ⟨#[]⟩ 0 ⟨#[]⟩ (by omega) (fun h => by omega) (fun h => by omega)).mono fun e w' ⟨v, h1, ⟨kv, h2, _, h3⟩, h4⟩ => ⟨by rw [h1, h2, h3 rfl], h4⟩
theorem own_tree (w : World) (base : Nat) (k : ByteArray) (n : Int) (s : ByteArray) (v : Value) (h : OutT base w k n s v) : Calls Tryz.prog 9 #[v] w fun e w' => ∃ v', e = .returned v' ∧ OutT w.heap.size w' k n s v' ∧ Below w.heap.size w w' := by
  rcases h with ⟨h1, kv, rfl, h2, _⟩ | ⟨h1, rfl⟩
  · obtain ⟨la, lc, rfl, hk⟩ := own_kids h2
    exact (own_gen w FR 0 ⟨#[]⟩ la 3 lc k n s (by omega) hk (fun _ W => own_leaf W k n s)).mono fun e w' ⟨v, h3, h4, h5⟩ => ⟨v, h3, .inl ⟨h1, h4⟩, h5⟩
  · exact (own_leaf w ⟨#[]⟩ 0 ⟨#[]⟩).mono fun e w' ⟨h3, h4⟩ => ⟨_, h3, .inr ⟨h1, rfl⟩, h4⟩
end

section
open Go.RowKit
set_option maxRecDepth 100000
theorem drew_below (w : World) : Below w.heap.size w w.drew := ⟨rfl, rfl, rfl, Nat.le_refl _, fun _ _ => rfl⟩
set_option maxHeartbeats 4000000 in
theorem eq_gen (w : World) (k : ByteArray) (n : Int) (s : ByteArray) (la lb : Option Addr) (m lc lc' : Nat) (kx : ByteArray) (nx : Int) (sx : ByteArray) (hm : m ≤ 3) (hk : KidsAt w la m kx nx sx) (hk' : KidsAt w lb m kx nx sx)
    (hrec : 0 < m → ∀ W, Calls Tryz.prog 18 #[.agg #[.string kx, .int .i64 nx, .string sx, .slice none 0 0], .agg #[.string kx, .int .i64 nx, .string sx, .slice none 0 0]] W (RetB W (.bool true))) :
    Calls Tryz.prog 18 #[.agg #[.string k, .int .i64 n, .string s, .slice la m lc], .agg #[.string k, .int .i64 n, .string s, .slice lb m lc']] w (RetB w (.bool true)) := by
  have HK := Lib.hid hk
  have HK' := Lib.hid hk'
  have HREC := Lib.hid hrec
  clear hk hk' hrec
  go_enter Tryz.func18, Tryz.ntmps18
  go_wp2_with fail
  have hst : Hid ((((w.alloc (.cells #[.string k, .int .i64 n, .string s, .slice la m lc] 24)).alloc (.cells #[.string k, .int .i64 n, .string s, .slice lb m lc'] 24)).heap[w.heap.size]? = some (.cells #[.string k, .int .i64 n, .string s, .slice la m lc] 24 (0, 0))) ∧
      (((w.alloc (.cells #[.string k, .int .i64 n, .string s, .slice la m lc] 24)).alloc (.cells #[.string k, .int .i64 n, .string s, .slice lb m lc'] 24)).heap[w.heap.size + 1]? = some (.cells #[.string k, .int .i64 n, .string s, .slice lb m lc'] 24 (0, 0))) ∧
      Below w.heap.size w ((w.alloc (.cells #[.string k, .int .i64 n, .string s, .slice la m lc] 24)).alloc (.cells #[.string k, .int .i64 n, .string s, .slice lb m lc'] 24))) := Lib.hid (by
    have h1 := heap_alloc_new w (.cells #[.string k, .int .i64 n, .string s, .slice la m lc] 24)
    have h2 := heap_alloc_new (w.alloc (.cells #[.string k, .int .i64 n, .string s, .slice la m lc] 24)) (.cells #[.string k, .int .i64 n, .string s, .slice lb m lc'] 24)
    simp only [World.size_alloc] at h2
    exact ⟨(Below.heap_alloc _ _ _ (by simp)).trans h1, h2, below_allocA (alloc_below w _) _⟩)
  generalize ((w.alloc (.cells #[.string k, .int .i64 n, .string s, .slice la m lc] 24)).alloc (.cells #[.string k, .int .i64 n, .string s, .slice lb m lc'] 24)) = w0 at hst ⊢
  obtain ⟨T, hT⟩ : ∃ T, T = w.heap.size := ⟨_, rfl⟩
  have hst : Hid (w0.heap[T]? = some (.cells #[.string k, .int .i64 n, .string s, .slice la m lc] 24 (0, 0)) ∧ w0.heap[T + 1]? = some (.cells #[.string k, .int .i64 n, .string s, .slice lb m lc'] 24 (0, 0)) ∧ Below w.heap.size w w0) := by rw [hT]; exact hst
  simp only [← hT]
  clear hT
  go_loopw [5] (fun iv wr => ∃ (i : Nat), i ≤ m ∧ iv = .int .i64 i ∧ Hid (wr.heap[T]? = some (.cells #[.string k, .int .i64 n, .string s, .slice la m lc] 24 (0, 0)) ∧ wr.heap[T + 1]? = some (.cells #[.string k, .int .i64 n, .string s, .slice lb m lc'] 24 (0, 0)) ∧ Below w.heap.size w wr)) (fun iv _ => m - (intOf iv).toNat)
  case atStart => exact ⟨0, by omega, rfl, hst⟩
  case round =>
    obtain ⟨i, hi, rfl, HX⟩ := hrel
    obtain ⟨t3, _⟩ := heapcell HX.out.1 3
    obtain ⟨s3, _⟩ := heapcell HX.out.2.1 3
    by_cases hlt : i < m
    · have hltI : (i : Int) < (m : Int) := by omega
      obtain ⟨g, rfl, hgl, hg⟩ := (HK.out.below HX.out.2.2) (by omega)
      obtain ⟨g', rfl, hgl', hg'⟩ := (HK'.out.below HX.out.2.2) (by omega)
      obtain ⟨g0, g1, g2, g3⟩ := hg i hlt
      obtain ⟨e0, e1, e2, e3⟩ := hg' i hlt
      clear hg hg' hgl hgl'
      go_wp2_with fail
      go_still_tail 10, (by kernel_rfl)
      go_wp2_with fail
      refine (HREC.out (by omega) _).mono ?_
      rintro e w3 ⟨rfl, hb3⟩
      have HX3 : Hid (w3.heap[T]? = some (.cells #[.string k, .int .i64 n, .string s, .slice (some ⟨g, 0, none⟩) m lc] 24 (0, 0)) ∧ w3.heap[T + 1]? = some (.cells #[.string k, .int .i64 n, .string s, .slice (some ⟨g', 0, none⟩) m lc'] 24 (0, 0)) ∧ Below w.heap.size w w3) :=
        Lib.hid ⟨heap_keep (show wr.drew.heap[T]? = _ from HX.out.1) hb3, heap_keep (show wr.drew.heap[T + 1]? = _ from HX.out.2.1) hb3, HX.out.2.2.trans (((drew_below wr).trans hb3).mono HX.out.2.2.size)⟩
      clear hb3
      go_wp2_with fail
      go_roundw
      case rel => exact ⟨i + 1, by omega, by go_num, HX3⟩
      case measure => simp [intOf]; omega
    · obtain rfl : i = m := by omega
      have hltI : ¬ (i : Int) < (i : Int) := by omega
      go_wp2_with fail
      go_ret
      exact ⟨rfl, HX.out.2.2⟩
theorem eq_leaf (w : World) (k : ByteArray) (n : Int) (s : ByteArray) : Calls Tryz.prog 18 #[.agg #[.string k, .int .i64 n, .string s, .slice none 0 0], .agg #[.string k, .int .i64 n, .string s, .slice none 0 0]] w (RetB w (.bool true)) :=
  eq_gen w k n s none none 0 0 0 ⟨#[]⟩ 0 ⟨#[]⟩ (by omega) (fun h => by omega) (fun h => by omega) (fun h => by omega)
theorem eq_tree (w : World) (base base' : Nat) (k : ByteArray) (n : Int) (s : ByteArray) (v v' : Value) (h : OutT base w k n s v) (h' : OutT base' w k n s v') : Calls Tryz.prog 18 #[v, v'] w (RetB w (.bool true)) := by
  rcases h with ⟨h1, kv, rfl, h2, _⟩ | ⟨h1, rfl⟩
  · rcases h' with ⟨h1', kv', rfl, h2', _⟩ | ⟨h1', rfl⟩
    · obtain ⟨la, lc, rfl, hk⟩ := own_kids h2
      obtain ⟨la', lc', rfl, hk'⟩ := own_kids h2'
      exact eq_gen w FR 0 ⟨#[]⟩ la la' 3 lc lc' k n s (by omega) hk hk' (fun _ W => eq_leaf W k n s)
    · omega
  · rcases h' with ⟨h1', kv', rfl, h2', _⟩ | ⟨h1', rfl⟩
    · omega
    · exact eq_leaf w ⟨#[]⟩ 0 ⟨#[]⟩
set_option maxHeartbeats 4000000 in
theorem eqplace_any (w : World) (f : ByteArray) (l : List Int) (v v' : Value) (h : PathAt w l v) (h' : PathAt w l v') (hl : l.length ≤ 63) : Calls Tryz.prog 12 #[.agg #[.string f, v], .agg #[.string f, v']] w (RetB w (.bool true)) := by
  obtain ⟨la, lc, rfl, h2⟩ := h
  obtain ⟨la', lc', rfl, h2'⟩ := h'
  have HK : Hid (PathAt w l (.slice la l.length lc)) := Lib.hid ⟨_, _, rfl, h2⟩
  have HK' : Hid (PathAt w l (.slice la' l.length lc')) := Lib.hid ⟨_, _, rfl, h2'⟩
  clear h2 h2'
  go_enter Tryz.func12, Tryz.ntmps12
  go_wp2_with fail
  have hst : Hid ((((w.alloc (.cells #[.string f, .slice la l.length lc] 27)).alloc (.cells #[.string f, .slice la' l.length lc'] 27)).heap[w.heap.size]? = some (.cells #[.string f, .slice la l.length lc] 27 (0, 0))) ∧
      (((w.alloc (.cells #[.string f, .slice la l.length lc] 27)).alloc (.cells #[.string f, .slice la' l.length lc'] 27)).heap[w.heap.size + 1]? = some (.cells #[.string f, .slice la' l.length lc'] 27 (0, 0))) ∧
      Below w.heap.size w ((w.alloc (.cells #[.string f, .slice la l.length lc] 27)).alloc (.cells #[.string f, .slice la' l.length lc'] 27))) := Lib.hid (by
    have h1 := heap_alloc_new w (.cells #[.string f, .slice la l.length lc] 27)
    have h2 := heap_alloc_new (w.alloc (.cells #[.string f, .slice la l.length lc] 27)) (.cells #[.string f, .slice la' l.length lc'] 27)
    simp only [World.size_alloc] at h2
    exact ⟨(Below.heap_alloc _ _ _ (by simp)).trans h1, h2, below_allocA (alloc_below w _) _⟩)
  generalize ((w.alloc (.cells #[.string f, .slice la l.length lc] 27)).alloc (.cells #[.string f, .slice la' l.length lc'] 27)) = w0 at hst ⊢
  obtain ⟨T, hT⟩ : ∃ T, T = w.heap.size := ⟨_, rfl⟩
  have hst : Hid (w0.heap[T]? = some (.cells #[.string f, .slice la l.length lc] 27 (0, 0)) ∧ w0.heap[T + 1]? = some (.cells #[.string f, .slice la' l.length lc'] 27 (0, 0)) ∧ Below w.heap.size w w0) := by rw [hT]; exact hst
  simp only [← hT]
  clear hT
  go_loopw [5] (fun iv wr => ∃ (i : Nat), i ≤ l.length ∧ iv = .int .i64 i ∧ Hid (wr.heap[T]? = some (.cells #[.string f, .slice la l.length lc] 27 (0, 0)) ∧ wr.heap[T + 1]? = some (.cells #[.string f, .slice la' l.length lc'] 27 (0, 0)) ∧ Below w.heap.size w wr)) (fun iv _ => l.length - (intOf iv).toNat)
  case atStart => exact ⟨0, by omega, rfl, hst⟩
  case round =>
    obtain ⟨i, hi, rfl, HX⟩ := hrel
    obtain ⟨t3, _⟩ := heapcell HX.out.1 1
    obtain ⟨s3, _⟩ := heapcell HX.out.2.1 1
    by_cases hlt : i < l.length
    · have hltI : (i : Int) < (l.length : Int) := by omega
      have hp := HK.out.below HX.out.2.2
      have hp' := HK'.out.below HX.out.2.2
      obtain ⟨a1, c1, q1, p1⟩ := hp
      obtain ⟨a2, c2, q2, p2⟩ := hp'
      simp only [Value.slice.injEq, true_and] at q1 q2
      obtain ⟨rfl, rfl⟩ := q1
      obtain ⟨rfl, rfl⟩ := q2
      have hn0 : l ≠ [] := fun h => by subst h; simp at hlt
      obtain ⟨b, o, rfl, g1⟩ := p1 hn0
      obtain ⟨b', o', rfl, g2⟩ := p2 hn0
      have x1 := g1 i hlt
      have x2 := g2 i hlt
      generalize l[i] = z at x1 x2
      clear g1 g2 p1 p2
      go_wp2_with fail
      go_region
      go_wp2_with fail
      go_roundw
      case rel => exact ⟨i + 1, by omega, by go_num, Lib.hid ⟨HX.out.1, HX.out.2.1, HX.out.2.2.drew⟩⟩
      case measure => simp [intOf]; omega
    · obtain rfl : i = l.length := by omega
      have hltI : ¬ (l.length : Int) < (l.length : Int) := by omega
      go_wp2_with fail
      go_ret
      exact ⟨rfl, HX.out.2.2⟩
end

section
open Go.RowKit
set_option maxRecDepth 100000
/-- A list of strings. -/
def StrAt (w : World) (l : List ByteArray) (v : Value) : Prop := ∃ la lc, v = .slice la l.length lc ∧ (l ≠ [] → ∃ g, la = some ⟨g, 0, none⟩ ∧ ∀ i (h : i < l.length), w.cell? ⟨g, i, none⟩ = some (.string l[i]))
theorem StrAt.below {w w' : World} {l : List ByteArray} {v : Value} (h : StrAt w l v) (hb : Below w.heap.size w w') : StrAt w' l v := by
  obtain ⟨la, lc, rfl, h1⟩ := h
  refine ⟨la, lc, rfl, fun h0 => ?_⟩
  obtain ⟨g, e, h2⟩ := h1 h0
  exact ⟨g, e, fun i hi => cell_stepA (h2 i hi) hb⟩
theorem NamesAt.str {base : Nat} {w : World} {l : List ByteArray} {v : Value} (h : NamesAt base w l v) : StrAt w l v := by
  obtain ⟨la, lc, rfl⟩ := own_slice h
  refine ⟨la, lc, rfl, fun h0 => ?_⟩
  rcases h.2 with ⟨e, h1⟩ | ⟨g, cap, cur, e, hb, hg, _⟩
  · exact (h0 (List.length_eq_zero_iff.1 h1)).elim
  · simp only [Value.slice.injEq, true_and] at e
    obtain ⟨rfl, rfl⟩ := e
    refine ⟨g, rfl, fun i hi => ?_⟩
    have := World.ownsRow.cells h (g := g) rfl i (.string l[i]) (by simp [hi])
    rwa [addr_add0] at this
set_option maxHeartbeats 4000000 in
theorem eqnames_any (w : World) (l : List ByteArray) (v v' : Value) (h : StrAt w l v) (h' : StrAt w l v') (hl : l.length ≤ 100) : Calls Tryz.prog 17 #[v, v'] w (RetB w (.bool true)) := by
  obtain ⟨la, lc, rfl, h2⟩ := h
  obtain ⟨la', lc', rfl, h2'⟩ := h'
  have HK : Hid (StrAt w l (.slice la l.length lc)) := Lib.hid ⟨_, _, rfl, h2⟩
  have HK' : Hid (StrAt w l (.slice la' l.length lc')) := Lib.hid ⟨_, _, rfl, h2'⟩
  clear h2 h2'
  go_enter Tryz.func17, Tryz.ntmps17
  go_wp2_with fail
  go_loopw [5] (fun iv wr => ∃ (i : Nat), i ≤ l.length ∧ iv = .int .i64 i ∧ Hid (Below w.heap.size w wr)) (fun iv _ => l.length - (intOf iv).toNat)
  case atStart => exact ⟨0, by omega, rfl, Lib.hid (Below.refl _ _)⟩
  case round =>
    obtain ⟨i, hi, rfl, HX⟩ := hrel
    by_cases hlt : i < l.length
    · have hltI : (i : Int) < (l.length : Int) := by omega
      obtain ⟨a1, c1, q1, p1⟩ := HK.out.below HX.out
      obtain ⟨a2, c2, q2, p2⟩ := HK'.out.below HX.out
      simp only [Value.slice.injEq, true_and] at q1 q2
      obtain ⟨rfl, rfl⟩ := q1
      obtain ⟨rfl, rfl⟩ := q2
      have hn0 : l ≠ [] := fun h => by subst h; simp at hlt
      obtain ⟨b, rfl, g1⟩ := p1 hn0
      obtain ⟨b', rfl, g2⟩ := p2 hn0
      have x1 := g1 i hlt
      have x2 := g2 i hlt
      generalize l[i] = z at x1 x2
      clear g1 g2 p1 p2
      go_wp2_with fail
      go_region
      go_wp2_with fail
      go_roundw
      case rel => exact ⟨i + 1, by omega, by go_num, Lib.hid HX.out.drew⟩
      case measure => simp [intOf]; omega
    · obtain rfl : i = l.length := by omega
      have hltI : ¬ (l.length : Int) < (l.length : Int) := by omega
      go_wp2_with fail
      go_ret
      exact ⟨rfl, HX.out⟩
theorem room_any (w : World) (n c : Int) (hn : 0 ≤ n ∧ n ≤ 70000) : Calls Tryz.prog 36 #[.int .i64 n, .int .i64 c] w fun e w' => e = .returned (.int .i64 (min c (n + 70000))) ∧ w' = w := by
  have hw : IntKind.i64.wrap (n + 70000) = n + 70000 := by exact IntWalk.i64_in _ (by omega)
  by_cases h : n + 70000 < c
  · have hm : Hid (min c (n + 70000) = n + 70000) := Lib.hid (by omega)
    go_enter Tryz.func36, Tryz.ntmps36
    go_wp2_with fail
    go_ret
    exact ⟨by rw [hm.out]; rfl, rfl⟩
  · have hm : Hid (min c (n + 70000) = c) := Lib.hid (by omega)
    go_enter Tryz.func36, Tryz.ntmps36
    go_wp2_with fail
    go_ret
    exact ⟨by rw [hm.out]; rfl, rfl⟩
theorem met_From159 (a : Addr) (w : World) : (method 349 159 (.pointer (some a)) "From").run Tryz.prog w = .ok (125, .pointer (some a)) w := by kernel_rfl
end

section
open Go.RowKit
set_option maxRecDepth 100000
/-- All blocks but these stand. -/
structure KBs (bs : List Nat) (w w' : World) : Prop where
  os : w'.os = w.os
  tape : w'.tape = w.tape
  output : w'.output = w.output
  size : w.heap.size ≤ w'.heap.size
  block : ∀ g, g < w.heap.size → g ∉ bs → w'.heap[g]? = w.heap[g]?
theorem KBs.refl (bs : List Nat) (w : World) : KBs bs w w := ⟨rfl, rfl, rfl, Nat.le_refl _, fun _ _ _ => rfl⟩
theorem KBs.trans {bs cs : List Nat} {a b c : World} (h : KBs bs a b) (k : KBs cs b c) (hc : ∀ g ∈ cs, g ∈ bs ∨ a.heap.size ≤ g) : KBs bs a c :=
  ⟨k.os.trans h.os, k.tape.trans h.tape, k.output.trans h.output, Nat.le_trans h.size k.size, fun g hg hn => (k.block g (Nat.lt_of_lt_of_le hg h.size) (fun hm => by rcases hc g hm with h1 | h1; exact hn h1; omega)).trans (h.block g hg hn)⟩
theorem KBs.of_below {bs : List Nat} {w w' : World} (h : Below w.heap.size w w') : KBs bs w w' := ⟨h.os, h.tape, h.output, h.size, fun g hg _ => h.block g hg⟩
theorem KBs.set {w : World} (g j : Nat) (v : Value) : KBs [g] w (w.setCell ⟨g, j, none⟩ v) := ⟨rfl, rfl, rfl, by simp [World.setCell], fun b _ hb => heap_set_ne v (by simpa using hb)⟩
theorem KBs.drew {bs : List Nat} {w w' : World} (h : KBs bs w w') : KBs bs w w'.drew := ⟨h.os, h.tape, h.output, h.size, h.block⟩
theorem KBs.sub {bs cs : List Nat} {w w' : World} (h : KBs bs w w') (hc : ∀ g ∈ bs, g ∈ cs ∨ w.heap.size ≤ g) : KBs cs w w' := ⟨h.os, h.tape, h.output, h.size, fun g hg hn => h.block g hg (fun hm => by rcases hc g hm with h1 | h1; exact hn h1; omega)⟩
theorem KBs.below {bs : List Nat} {w w' : World} {B : Nat} (h : KBs bs w w') (hb : ∀ g ∈ bs, B ≤ g) (hB : B ≤ w.heap.size) : Below B w w' := ⟨h.os, h.tape, h.output, h.size, fun g hg => h.block g (by omega) (fun hm => by have := hb g hm; omega)⟩
theorem cellOf_heap {w w' : World} {b j : Nat} (h : w'.heap[b]? = w.heap[b]?) : w'.cell? ⟨b, j, none⟩ = w.cell? ⟨b, j, none⟩ := by
  simp only [World.cell?, h]
theorem drop_cons' {α : Type} {L : List α} {a : Nat} {c : α} (h : L[a]? = some c) : L.drop a = c :: L.drop (a + 1) := by
  obtain ⟨hlt, e⟩ := List.getElem?_eq_some_iff.1 h
  rw [List.drop_eq_getElem_cons hlt, e]
theorem size_da (w : World) (o : Obj) : ((w.drew).alloc o).heap.size = w.heap.size + 1 := by rw [show (w.drew.alloc o).heap = w.heap.push o from rfl, Array.size_push]
/-- A list that the book holds: its block, its length, its room. -/
abbrev Rw := Nat × Nat × Nat
def rowV (r : Rw) : Value := .slice (some ⟨r.1, 0, none⟩) r.2.1 r.2.2
/-- A row of cells, told by what each place holds. -/
def RowC (w : World) (g : Nat) (t : TypeId) (sz : Nat) (c : Nat → Value) : Prop := ∃ cur : Array Value, w.heap[g]? = some (.cells cur t (0, 0)) ∧ cur.size = sz ∧ ∀ p, p < sz → cur[p]? = some (c p)
theorem RowC.keep {w w' : World} {g : Nat} {t : TypeId} {sz : Nat} {c : Nat → Value} (h : RowC w g t sz c) (hk : w'.heap[g]? = w.heap[g]?) : RowC w' g t sz c := by
  obtain ⟨cur, h1, h2⟩ := h
  exact ⟨cur, hk.trans h1, h2⟩
theorem RowC.of {w : World} {g : Nat} {t : TypeId} {cur : Array Value} (h : w.heap[g]? = some (.cells cur t (0, 0))) : RowC w g t cur.size (fun p => cur.getD p .nilIface) := ⟨cur, h, rfl, fun p hp => by
  simp [Array.getD, hp]⟩
theorem RowC.lt {w : World} {g : Nat} {t : TypeId} {sz : Nat} {c : Nat → Value} (h : RowC w g t sz c) : g < w.heap.size := by
  obtain ⟨cur, h1, _⟩ := h
  exact (Array.getElem?_eq_some_iff.1 h1).1
theorem RowC.cell {w : World} {g : Nat} {t : TypeId} {sz : Nat} {c : Nat → Value} (h : RowC w g t sz c) {p : Nat} (hp : p < sz) : w.cell? ⟨g, p, none⟩ = some (c p) ∧ w.frozen? ⟨g, p, none⟩ = false := by
  obtain ⟨cur, h1, h2, h3⟩ := h
  exact ⟨(heapcell h1 p).1.trans (h3 p hp), (heapcell h1 p).2⟩
theorem RowC.set {w : World} {g : Nat} {t : TypeId} {sz : Nat} {c : Nat → Value} (h : RowC w g t sz c) (o : Nat) (v : Value) : RowC (w.setCell ⟨g, o, none⟩ v) g t sz (fun p => if p = o then v else c p) := by
  obtain ⟨cur, h1, h2, h3⟩ := h
  refine ⟨cur.set! o v, heap_setA h1 v, by rw [Array.size_set!]; exact h2, fun p hp => ?_⟩
  by_cases hpo : p = o
  · subst hpo
    have : p < cur.size := by omega
    simp [Array.set!_eq_setIfInBounds, this]
  · rw [Array.set!_eq_setIfInBounds, Array.getElem?_setIfInBounds_ne (fun e => hpo e.symm)]
    simp [hpo]; exact h3 p hp
theorem RowC.congr {w : World} {g : Nat} {t : TypeId} {sz : Nat} {c c' : Nat → Value} (h : RowC w g t sz c) (hc : ∀ p, p < sz → c' p = c p) : RowC w g t sz c' := by
  obtain ⟨cur, h1, h2, h3⟩ := h
  exact ⟨cur, h1, h2, fun p hp => by rw [hc p hp]; exact h3 p hp⟩
/-- What a book's types are, how many cells its items have, and what marks an item of its lists. -/
structure BP where
  bt : TypeId
  lt : TypeId
  et : TypeId
  kt : TypeId
  es : Nat
  ks : Nat
  mark : Nat → Nat → Value
variable {P : BP}
/-- A list's row lies there. -/
def RowAt (P : BP) (w : World) (r : Rw) : Prop := ∃ c, RowC w r.1 P.et (r.2.2 * P.es) c ∧ r.2.1 ≤ r.2.2 ∧ r.2.2 ≤ maxLen ∧ r.2.1 ≤ 70000
theorem RowAt.keep {w w' : World} {r : Rw} (h : RowAt P w r) (hk : w'.heap[r.1]? = w.heap[r.1]?) : RowAt P w' r := by
  obtain ⟨c, h1, h2⟩ := h
  exact ⟨c, h1.keep hk, h2⟩
/-- A list that holds its own mark alone. -/
def Marked (P : BP) (w : World) (j : Nat) (r : Rw) : Prop := ∃ c, RowC w r.1 P.et (r.2.2 * P.es) c ∧ (r.2.1 ≤ r.2.2 ∧ r.2.2 ≤ maxLen ∧ r.2.1 ≤ 70000) ∧ ∀ k, k < r.2.1 → ∀ q, q < P.es → c (k * P.es + q) = P.mark j q
theorem Marked.keep {w w' : World} {j : Nat} {r : Rw} (h : Marked P w j r) (hk : w'.heap[r.1]? = w.heap[r.1]?) : Marked P w' j r := by
  obtain ⟨c, h1, h2⟩ := h
  exact ⟨c, h1.keep hk, h2⟩
def MarkedAll (P : BP) (w : World) (rows : List Rw) : Prop := ∀ j r, rows[j]? = some r → Marked P w j r
theorem MarkedAll.keep {w w' : World} {rows : List Rw} (h : MarkedAll P w rows) (hk : ∀ r ∈ rows, w'.heap[r.1]? = w.heap[r.1]?) : MarkedAll P w' rows := fun j r hj => (h j r hj).keep (hk r (List.mem_of_getElem? hj))
theorem MarkedAll.snoc {w : World} {rows : List Rw} {r : Rw} (h : MarkedAll P w rows) (hr : Marked P w rows.length r) : MarkedAll P w (rows ++ [r]) := fun j r' hj => by
  by_cases hlt : j < rows.length
  · rw [List.getElem?_append_left hlt] at hj
    exact h j r' hj
  · by_cases he : j = rows.length
    · subst he
      simp at hj
      subst hj
      exact hr
    · rw [List.getElem?_eq_none (by simp; omega)] at hj
      cases hj
/-- The book's own block. -/
def BKc (P : BP) (w : World) (B : Nat) (lv nv : Value) (z : Int) (kv : Value) : Prop := w.heap[B]? = some (.cells #[lv, nv, .int .i64 z, kv] P.bt (0, 0))
/-- The book: its block, its lists, their lengths, its size, what is kept. -/
structure BK (P : BP) (base : Nat) (w : World) (B : Nat) (rows : List Rw) (lv nv kv : Value) (z : Int) (kn : Nat) (ks : List Value) : Prop where
  c : BKc P w B lv nv z kv
  l : w.ownsRow base P.lt 1 lv rows.length (rows.map rowV)
  n : w.ownsRow base 3 1 nv rows.length (rows.map fun r => .int .i64 (r.2.1 : Nat))
  k : w.ownsRow base P.kt P.ks kv kn ks
  m : MarkedAll P w rows
  z0 : 0 ≤ z
  nd : (B :: (lv.ownBlock.toList ++ nv.ownBlock.toList ++ kv.ownBlock.toList ++ rows.map (·.1))).Nodup
  hb : base ≤ B
  rb : ∀ r ∈ rows, base ≤ r.1
/-- The book's blocks. -/
def bkB (B : Nat) (rows : List Rw) (lv nv kv : Value) : List Nat := B :: (lv.ownBlock.toList ++ nv.ownBlock.toList ++ kv.ownBlock.toList ++ rows.map (·.1))
theorem BK.lt {base B : Nat} {w : World} {rows : List Rw} {lv nv kv : Value} {z : Int} {kn : Nat} {ks : List Value} (h : BK P base w B rows lv nv kv z kn ks) : ∀ g ∈ bkB B rows lv nv kv, base ≤ g ∧ g < w.heap.size := fun g hg => by
  unfold bkB at hg
  rcases List.mem_cons.1 hg with rfl | hg
  · exact ⟨h.hb, (Array.getElem?_eq_some_iff.1 h.c).1⟩
  · rcases List.mem_append.1 hg with hg | hg
    · rcases List.mem_append.1 hg with hg | hg
      · rcases List.mem_append.1 hg with hg | hg
        · exact h.l.lt g (by simpa using hg)
        · exact h.n.lt g (by simpa using hg)
      · exact h.k.lt g (by simpa using hg)
    · obtain ⟨r, hr, rfl⟩ := List.mem_map.1 hg
      obtain ⟨j, hj⟩ := List.getElem?_of_mem hr
      obtain ⟨c, h1, _⟩ := h.m j r hj
      exact ⟨h.rb r hr, h1.lt⟩
theorem BK.keep {base B : Nat} {w w' : World} {rows : List Rw} {lv nv kv : Value} {z : Int} {kn : Nat} {ks : List Value} (h : BK P base w B rows lv nv kv z kn ks) (hk : ∀ g ∈ bkB B rows lv nv kv, w'.heap[g]? = w.heap[g]?) : BK P base w' B rows lv nv kv z kn ks :=
  ⟨(hk B (by simp [bkB])).trans h.c, ownsRow_keep h.l (fun g e => hk g (by simp [bkB, e])), ownsRow_keep h.n (fun g e => hk g (by simp [bkB, e])), ownsRow_keep h.k (fun g e => hk g (by simp [bkB, e])),
    h.m.keep (fun r hr => hk r.1 (by simp [bkB]; exact .inr (.inr (.inr (.inr ⟨r.2.1, r.2.2, hr⟩))))), h.z0, h.nd, h.hb, h.rb⟩
theorem nd4 (B : Nat) (a b c : Option Nat) (rs : List Nat) : (B :: (a.toList ++ b.toList ++ c.toList ++ rs)).Nodup ↔ (∀ x, a = some x → x ≠ B ∧ b ≠ some x ∧ c ≠ some x ∧ x ∉ rs) ∧ (∀ x, b = some x → x ≠ B ∧ c ≠ some x ∧ x ∉ rs) ∧ (∀ x, c = some x → x ≠ B ∧ x ∉ rs) ∧ B ∉ rs ∧ rs.Nodup := by
  cases a <;> cases b <;> cases c <;> simp [List.nodup_cons, eq_comm] <;> grind
theorem mem_bkB {B : Nat} {rows : List Rw} {lv nv kv : Value} {g : Nat} : g ∈ bkB B rows lv nv kv ↔ g = B ∨ lv.ownBlock = some g ∨ nv.ownBlock = some g ∨ kv.ownBlock = some g ∨ ∃ r ∈ rows, r.1 = g := by
  simp [bkB]
theorem BK.setz {base B : Nat} {w w' : World} {rows : List Rw} {lv nv kv : Value} {z z2 : Int} {kn : Nat} {ks : List Value} (h : BK P base w B rows lv nv kv z kn ks) (hc : BKc P w' B lv nv z2 kv) (hk : ∀ g, g ≠ B → g < w.heap.size → w'.heap[g]? = w.heap[g]?) (hz : 0 ≤ z2) : BK P base w' B rows lv nv kv z2 kn ks := by
  have hn := (nd4 _ _ _ _ _).1 h.nd
  have hl := h.lt
  refine ⟨hc, ownsRow_keep h.l (fun g e => hk g (hn.1 g e).1 (hl g (mem_bkB.2 (.inr (.inl e)))).2), ownsRow_keep h.n (fun g e => hk g (hn.2.1 g e).1 (hl g (mem_bkB.2 (.inr (.inr (.inl e))))).2), ownsRow_keep h.k (fun g e => hk g (hn.2.2.1 g e).1 (hl g (mem_bkB.2 (.inr (.inr (.inr (.inl e)))))).2),
    h.m.keep (fun r hr => hk r.1 (fun e => hn.2.2.2.1 (e ▸ List.mem_map.2 ⟨r, hr, rfl⟩)) (hl r.1 (mem_bkB.2 (.inr (.inr (.inr (.inr ⟨r, hr, rfl⟩)))))).2), hz, h.nd, h.hb, h.rb⟩
/-- One list more. -/
theorem BK.snoc {base B : Nat} {w w' : World} {rows : List Rw} {lv nv kv lv' nv' : Value} {z : Int} {kn : Nat} {ks : List Value} {r : Rw} (h : BK P base w B rows lv nv kv z kn ks) (hc : BKc P w' B lv' nv' z kv)
    (hl : w'.ownsRow base P.lt 1 lv' (rows.length + 1) (rows.map rowV ++ [rowV r])) (hn : w'.ownsRow base 3 1 nv' (rows.length + 1) ((rows.map fun r => Value.int .i64 (r.2.1 : Nat)) ++ [.int .i64 (r.2.1 : Nat)]))
    (hk : ∀ g, g ≠ B → g ≠ r.1 → lv.ownBlock ≠ some g → nv.ownBlock ≠ some g → g < w.heap.size → w'.heap[g]? = w.heap[g]?) (hm : Marked P w' rows.length r) (hr : r.1 < w.heap.size) (hrb : base ≤ r.1) (hrn : r.1 ∉ bkB B rows lv nv kv)
    (hl2 : ∀ g, lv'.ownBlock = some g → lv.ownBlock = some g ∨ w.heap.size ≤ g) (hn2 : ∀ g, nv'.ownBlock = some g → (nv.ownBlock = some g ∨ w.heap.size ≤ g) ∧ lv'.ownBlock ≠ some g) : BK P base w' B (rows ++ [r]) lv' nv' kv z kn ks := by
  have hnd := (nd4 _ _ _ _ _).1 h.nd
  have hlt := h.lt
  have hrn' := fun x => hrn (mem_bkB.2 x)
  have hBlt := (hlt B (mem_bkB.2 (.inl rfl))).2
  refine ⟨hc, by simpa using hl, by simpa using hn, ownsRow_keep h.k (fun g e => ?_), MarkedAll.snoc (h.m.keep (fun q hq => ?_)) hm, h.z0, ?_, h.hb, fun q hq => ?_⟩
  · exact hk g (hnd.2.2.1 g e).1 (fun e2 => hrn' (.inr (.inr (.inr (.inl (e2 ▸ e)))))) (fun e2 => (hnd.1 g e2).2.2.1 e) (fun e2 => (hnd.2.1 g e2).2.1 e) (hlt g (mem_bkB.2 (.inr (.inr (.inr (.inl e)))))).2
  · have hqm : q.1 ∈ rows.map (·.1) := List.mem_map.2 ⟨q, hq, rfl⟩
    exact hk q.1 (fun e => hnd.2.2.2.1 (e ▸ hqm)) (fun e => hrn' (.inr (.inr (.inr (.inr ⟨q, hq, e⟩))))) (fun e => (hnd.1 q.1 e).2.2.2 hqm) (fun e => (hnd.2.1 q.1 e).2.2 hqm) (hlt q.1 (mem_bkB.2 (.inr (.inr (.inr (.inr ⟨q, hq, rfl⟩)))))).2
  · have hrl : ∀ x, x ∈ (rows ++ [r]).map (·.1) → x ∈ rows.map (·.1) ∨ x = r.1 := fun x hx => by
      simp only [List.map_append, List.mem_append, List.map_cons, List.map_nil, List.mem_singleton] at hx; exact hx
    have hold : ∀ x, x ∈ (rows ++ [r]).map (·.1) → x < w.heap.size := fun x hx => by
      rcases hrl x hx with h1 | h1
      · obtain ⟨q, hq, rfl⟩ := List.mem_map.1 h1
        exact (hlt q.1 (mem_bkB.2 (.inr (.inr (.inr (.inr ⟨q, hq, rfl⟩)))))).2
      · omega
    refine (nd4 _ _ _ _ _).2 ⟨fun x hx => ?_, fun x hx => ?_, fun x hx => ?_, fun hx => ?_, ?_⟩
    · refine ⟨?_, fun e => (hn2 x e).2 hx, ?_, ?_⟩
      · rcases hl2 x hx with h1 | h1
        · exact (hnd.1 x h1).1
        · omega
      · rcases hl2 x hx with h1 | h1
        · exact (hnd.1 x h1).2.2.1
        · intro e
          have := (hlt x (mem_bkB.2 (.inr (.inr (.inr (.inl e)))))).2
          omega
      · rcases hl2 x hx with h1 | h1
        · intro hm
          rcases hrl x hm with h2 | h2
          · exact (hnd.1 x h1).2.2.2 h2
          · exact hrn' (.inr (.inl (h2 ▸ h1)))
        · intro hm
          have := hold x hm; omega
    · refine ⟨?_, ?_, ?_⟩
      · rcases (hn2 x hx).1 with h1 | h1
        · exact (hnd.2.1 x h1).1
        · omega
      · rcases (hn2 x hx).1 with h1 | h1
        · exact (hnd.2.1 x h1).2.1
        · intro e
          have := (hlt x (mem_bkB.2 (.inr (.inr (.inr (.inl e)))))).2
          omega
      · rcases (hn2 x hx).1 with h1 | h1
        · intro hm
          rcases hrl x hm with h2 | h2
          · exact (hnd.2.1 x h1).2.2 h2
          · exact hrn' (.inr (.inr (.inl (h2 ▸ h1))))
        · intro hm
          have := hold x hm; omega
    · refine ⟨(hnd.2.2.1 x hx).1, fun hm => ?_⟩
      rcases hrl x hm with h2 | h2
      · exact (hnd.2.2.1 x hx).2 h2
      · exact hrn' (.inr (.inr (.inr (.inl (h2 ▸ hx)))))
    · rcases hrl B hx with h2 | h2
      · exact hnd.2.2.2.1 h2
      · exact hrn' (.inl h2.symm)
    · rw [List.map_append, List.nodup_append]
      refine ⟨hnd.2.2.2.2, by simp, fun a ha b hb hab => ?_⟩
      simp at hb
      obtain ⟨q, hq, rfl⟩ := List.mem_map.1 ha
      exact hrn' (.inr (.inr (.inr (.inr ⟨q, hq, hab.trans hb⟩))))
  · rcases List.mem_append.1 hq with h1 | h1
    · exact h.rb q h1
    · simp at h1; subst h1; exact hrb
/-- What an append through a field leaves. -/
theorem app_done {W w1 : World} {B base e n2 g2 cap2 : Nat} {lvi : Value} {o : Obj} {xs : List Value} {cs : Array Value} {t : TypeId} (hq : w1.heap[B]? = some (.cells cs t (0, 0))) (hown : w1.ownsRow base e 1 (.slice (some ⟨g2, 0, none⟩) n2 cap2) n2 xs)
    (hgrow : ((W.drew).alloc o).grownBy w1 lvi.ownBlock) (hat : lvi.ownBlock = some g2 ∨ g2 = ((W.drew).alloc o).heap.size) (hne : some B ≠ lvi.ownBlock) (hB : B < W.heap.size) (j : Nat) (v : Value) :
    (w1.setCell ⟨B, j, none⟩ v).heap[B]? = some (.cells (cs.set! j v) t (0, 0)) ∧ (w1.setCell ⟨B, j, none⟩ v).ownsRow base e 1 (.slice (some ⟨g2, 0, none⟩) n2 cap2) n2 xs ∧
      KBs (B :: lvi.ownBlock.toList) W (w1.setCell ⟨B, j, none⟩ v) ∧ ∀ g, (Value.slice (some ⟨g2, 0, none⟩) n2 cap2).ownBlock = some g → lvi.ownBlock = some g ∨ W.heap.size ≤ g := by
  have hs := size_da W o
  refine ⟨heap_setA hq v, ownsRow_keep hown (fun g e => heap_set_ne v (fun h => ?_)), ⟨hgrow.os, hgrow.tape, hgrow.output, ?_, fun b hb hn => ?_⟩, fun g e => ?_⟩
  · simp [Value.ownBlock] at e; subst e
    rcases hat with h1 | h1
    · exact hne (h ▸ h1.symm)
    · omega
  · have := hgrow.size
    simp only [World.setCell, Array.size_modify]; omega
  · rw [heap_set_ne v (fun h => hn (by simp [h])), hgrow.block b (by omega) (fun h => hn (by simp [← h]))]
    exact Below.heap_alloc W.drew _ _ hb
  · simp [Value.ownBlock] at e; subst e
    rcases hat with h1 | h1
    · exact .inl h1
    · right; omega
end

section
open Go.RowKit
set_option maxRecDepth 100000
structure TkCtx (P : BP) (w : World) (base B : Nat) (rows rs : List Rw) (lv nv kv : Value) (z : Int) (kn : Nat) (ks : List Value) : Prop where
  bk : BK P base w B rows lv nv kv z kn ks
  nd : (rs.map (·.1)).Nodup
  rb : ∀ r ∈ rs, base ≤ r.1 ∧ r.1 ∉ bkB B rows lv nv kv ∧ RowAt P w r
/-- Where Take's second loop stands. -/
structure TkRel (P : BP) (w : World) (base B : Nat) (rows rs : List Rw) (lv nv kv : Value) (kn : Nat) (ks : List Value) (i : Nat) (lvi nvi : Value) (zi : Int) (wr : World) : Prop where
  bk : BK P base wr B (rows ++ rs.take i) lvi nvi kv zi kn ks
  ra : ∀ r ∈ rs.drop i, RowAt P wr r
  kb : KBs (B :: (lv.ownBlock.toList ++ nv.ownBlock.toList ++ rs.map (·.1))) w wr
  nl : ∀ g, lvi.ownBlock = some g → lv.ownBlock = some g ∨ w.heap.size ≤ g
  nn : ∀ g, nvi.ownBlock = some g → nv.ownBlock = some g ∨ w.heap.size ≤ g
section
variable {P : BP} {w : World} {base B : Nat} {rows rs : List Rw} {lv nv kv : Value} {z : Int} {kn : Nat} {ks : List Value} {i : Nat} {lvi nvi : Value} {zi : Int} {wr : World}
theorem TkCtx.start (C : TkCtx P w base B rows rs lv nv kv z kn ks) : TkRel P w base B rows rs lv nv kv kn ks 0 lv nv z w :=
  ⟨by simpa using C.bk, fun r hr => (C.rb r (by simpa using hr)).2.2, KBs.refl _ _, fun g h => .inl h, fun g h => .inl h⟩
/-- A block that the loop does not touch. -/
theorem TkRel.other (T : TkRel P w base B rows rs lv nv kv kn ks i lvi nvi zi wr) {g : Nat} (hg : g < w.heap.size) (h1 : g ≠ B) (h2 : lv.ownBlock ≠ some g) (h3 : nv.ownBlock ≠ some g) (h4 : ∀ r ∈ rs, r.1 ≠ g) : wr.heap[g]? = w.heap[g]? :=
  T.kb.block g hg (fun hm => by
    simp at hm
    rcases hm with h | h | h | ⟨a, b, h⟩
    · exact h1 h
    · exact h2 h
    · exact h3 h
    · exact h4 _ h rfl)
theorem TkRel.otherne (T : TkRel P w base B rows rs lv nv kv kn ks i lvi nvi zi wr) {g : Nat} (hg : g < w.heap.size) (h2 : lv.ownBlock ≠ some g) (h3 : nv.ownBlock ≠ some g) : lvi.ownBlock ≠ some g ∧ nvi.ownBlock ≠ some g := by
  refine ⟨fun e => ?_, fun e => ?_⟩
  · rcases T.nl _ e with h | h
    · exact h2 h
    · omega
  · rcases T.nn _ e with h | h
    · exact h3 h
    · omega
theorem TkRel.farR (T : TkRel P w base B rows rs lv nv kv kn ks i lvi nvi zi wr) (C : TkCtx P w base B rows rs lv nv kv z kn ks) {r : Rw} (hr : r ∈ rs) : r.1 < w.heap.size ∧ r.1 ≠ B ∧ lvi.ownBlock ≠ some r.1 ∧ nvi.ownBlock ≠ some r.1 ∧ kv.ownBlock ≠ some r.1 ∧ ∀ q ∈ rows, q.1 ≠ r.1 := by
  obtain ⟨_, hm, c, hc, _⟩ := C.rb r hr
  have hl := hc.lt
  have hn := fun x => hm (mem_bkB.2 x)
  have ho := T.otherne hl (fun e => hn (.inr (.inl e))) (fun e => hn (.inr (.inr (.inl e))))
  exact ⟨hl, fun e => hn (.inl e), ho.1, ho.2, fun e => hn (.inr (.inr (.inr (.inl e)))), fun q hq e => hn (.inr (.inr (.inr (.inr ⟨q, hq, e⟩))))⟩
theorem take_step {W8 W10 W11 W12 : World} {lv2 nv2 : Value} {z2 : Int} (T : TkRel P w base B rows rs lv nv kv kn ks i lvi nvi zi wr) (C : TkCtx P w base B rows rs lv nv kv z kn ks) (hi : i < rs.length) (h8 : BK P base W8 B (rows ++ rs.take i) lvi nvi kv z2 kn ks) (k8 : KBs [B] wr W8)
    (l10 : W10.ownsRow base P.lt 1 lv2 ((rows ++ rs.take i).length + 1) ((rows ++ rs.take i).map rowV ++ [rowV rs[i]])) (k10 : KBs (B :: lvi.ownBlock.toList) W8 W10) (n10 : ∀ g, lv2.ownBlock = some g → lvi.ownBlock = some g ∨ W8.heap.size ≤ g)
    (c11 : BKc P W11 B lv2 nv2 z2 kv) (l11 : W11.ownsRow base 3 1 nv2 ((rows ++ rs.take i).length + 1) (((rows ++ rs.take i).map fun r => Value.int .i64 (r.2.1 : Nat)) ++ [.int .i64 (rs[i].2.1 : Nat)])) (k11 : KBs (B :: nvi.ownBlock.toList) W10 W11) (n11 : ∀ g, nv2.ownBlock = some g → nvi.ownBlock = some g ∨ W10.heap.size ≤ g)
    (k12 : KBs [rs[i].1] W11 W12) (hm : Marked P W12 (rows ++ rs.take i).length rs[i]) : TkRel P w base B rows rs lv nv kv kn ks (i + 1) lv2 nv2 z2 W12 := by
  have hR := fun (r : Rw) (hr : r ∈ rs) => T.farR C hr
  have hRi := hR rs[i] (List.getElem_mem hi)
  have hri : rs[i] ∈ rs := List.getElem_mem hi
  have s8 := k8.size
  have s10 := k10.size
  have s11 := k11.size
  have s12 := k12.size
  have sw := T.kb.size
  have hnd := (nd4 _ _ _ _ _).1 h8.nd
  have hlt := h8.lt
  have hBlt := (hlt B (mem_bkB.2 (.inl rfl))).2
  have l2lt := fun g e => (l10.lt g e).2
  have lvlt : ∀ g, lvi.ownBlock = some g → g < W8.heap.size := fun g e => (hlt g (mem_bkB.2 (.inr (.inl e)))).2
  have nvlt : ∀ g, nvi.ownBlock = some g → g < W8.heap.size := fun g e => (hlt g (mem_bkB.2 (.inr (.inr (.inl e))))).2
  have l2B : ∀ g, lv2.ownBlock = some g → g ≠ B := fun g e e2 => by
    subst e2
    rcases n10 _ e with h | h
    · exact (hnd.1 _ h).1 rfl
    · omega
  have l2N : ∀ g, lv2.ownBlock = some g → nvi.ownBlock ≠ some g := fun g e e2 => by
    rcases n10 _ e with h | h
    · exact (hnd.1 _ h).2.1 e2
    · have := nvlt g e2; omega
  have l2R : ∀ g, lv2.ownBlock = some g → g ≠ rs[i].1 := fun g e e2 => by
    rcases n10 _ e with h | h
    · exact hRi.2.2.1 (e2 ▸ h)
    · omega
  have n2B : ∀ g, nv2.ownBlock = some g → g ≠ B := fun g e e2 => by
    subst e2
    rcases n11 _ e with h | h
    · exact (hnd.2.1 _ h).1 rfl
    · omega
  have n2R : ∀ g, nv2.ownBlock = some g → g ≠ rs[i].1 := fun g e e2 => by
    rcases n11 _ e with h | h
    · exact hRi.2.2.2.1 (e2 ▸ h)
    · omega
  have key : ∀ g, g < W8.heap.size → g ≠ B → lvi.ownBlock ≠ some g → nvi.ownBlock ≠ some g → g ≠ rs[i].1 → W12.heap[g]? = W8.heap[g]? := fun g h1 h2 h3 h4 h5 => by
    rw [k12.block g (by omega) (by simpa using h5), k11.block g (by omega) (by simp [h2]; exact h4), k10.block g h1 (by simp [h2]; exact h3)]
  have key2 : ∀ g, g < wr.heap.size → g ≠ B → lvi.ownBlock ≠ some g → nvi.ownBlock ≠ some g → g ≠ rs[i].1 → W12.heap[g]? = wr.heap[g]? := fun g h1 h2 h3 h4 h5 => by
    rw [key g (by omega) h2 h3 h4 h5, k8.block g h1 (by simpa using h2)]
  have htk : rs.take (i + 1) = rs.take i ++ [rs[i]] := List.take_succ_eq_append_getElem hi
  have hrn : rs[i].1 ∉ bkB B (rows ++ rs.take i) lvi nvi kv := fun hmm => by
    rcases mem_bkB.1 hmm with h | h | h | h | ⟨q, hq, h⟩
    · exact hRi.2.1 h
    · exact hRi.2.2.1 h
    · exact hRi.2.2.2.1 h
    · exact hRi.2.2.2.2.1 h
    · rcases List.mem_append.1 hq with hq | hq
      · exact hRi.2.2.2.2.2 q hq h
      · have := C.nd
        rw [← List.take_append_drop (i + 1) rs, htk, List.map_append, List.map_append, List.nodup_append, List.nodup_append] at this
        exact this.1.2.2 q.1 (List.mem_map.2 ⟨q, hq, rfl⟩) rs[i].1 (by simp) h
  refine ⟨?_, ?_, ?_, ?_, ?_⟩
  · rw [htk, ← List.append_assoc]
    refine h8.snoc ((k12.block B (by omega) (by simpa using fun e => hRi.2.1 e.symm)).trans c11) ?_ ?_ (fun g h1 h2 h3 h4 h5 => key g h5 h1 h3 h4 h2) hm (by omega) (C.rb _ hri).1 hrn n10 (fun g e => ⟨?_, fun e2 => ?_⟩)
    · exact ownsRow_keep l10 (fun g e => (k12.block g (by have := l2lt g e; omega) (by simpa using l2R g e)).trans (k11.block g (l2lt g e) (by simp [l2B g e]; exact l2N g e)))
    · exact ownsRow_keep l11 (fun g e => k12.block g (l11.lt g e).2 (by simpa using n2R g e))
    · rcases n11 g e with h | h
      · exact .inl h
      · right; omega
    · rcases n11 g e with h | h
      · exact l2N g e2 h
      · have := l2lt g e2; omega
  · intro r hr
    have hrm : r ∈ rs := List.mem_of_mem_drop hr
    have hRr := hR r hrm
    refine (T.ra r ?_).keep (key2 r.1 (by omega) hRr.2.1 hRr.2.2.1 hRr.2.2.2.1 (fun e => ?_))
    · rw [List.drop_eq_getElem_cons hi]; exact List.mem_cons_of_mem _ hr
    · have := C.nd
      rw [← List.take_append_drop (i + 1) rs, htk, List.map_append, List.map_append, List.nodup_append] at this
      exact this.2.2 rs[i].1 (by simp) r.1 (List.mem_map.2 ⟨r, hr, rfl⟩) e.symm
  · refine T.kb.trans (cs := B :: (lvi.ownBlock.toList ++ nvi.ownBlock.toList ++ [rs[i].1])) ⟨?_, ?_, ?_, by omega, fun g h1 h2 => ?_⟩ (fun g hg => ?_)
    · rw [k12.os, k11.os, k10.os, k8.os]
    · rw [k12.tape, k11.tape, k10.tape, k8.tape]
    · rw [k12.output, k11.output, k10.output, k8.output]
    · simp at h2
      exact key2 g h1 h2.1 h2.2.1 h2.2.2.1 h2.2.2.2
    · simp at hg
      rcases hg with rfl | h | h | rfl
      · exact .inl (by simp)
      · rcases T.nl g h with h | h
        · exact .inl (by simp [h])
        · exact .inr h
      · rcases T.nn g h with h | h
        · exact .inl (by simp [h])
        · exact .inr h
      · exact .inl (List.mem_cons_of_mem _ (List.mem_append_right _ (List.mem_map.2 ⟨_, hri, rfl⟩)))
  · intro g e
    rcases n10 g e with h | h
    · exact T.nl g h
    · right; omega
  · intro g e
    rcases n11 g e with h | h
    · exact T.nn g h
    · right; omega
end
def lenR (R : List Rw) (j : Nat) : Nat := (R.getD j (0, 0, 0)).2.1
def capR (R : List Rw) (j : Nat) : Nat := (R.getD j (0, 0, 0)).2.2
def endR (R : List Rw) (j : Nat) : Nat := min (capR R j) (lenR R j + 70000)
theorem lenR_get {R : List Rw} {j : Nat} {r : Rw} (h : R[j]? = some r) : lenR R j = r.2.1 := by
  unfold lenR
  rw [List.getD_eq_getElem?_getD, h]; rfl
theorem capR_get {R : List Rw} {j : Nat} {r : Rw} (h : R[j]? = some r) : capR R j = r.2.2 := by
  unfold capR
  rw [List.getD_eq_getElem?_getD, h]; rfl
/-- What does not change while lists are written over: the lists' row, the lists. -/
structure GC (LV : Nat) (R : List Rw) (la : Option Addr) : Prop where
  la : 0 < R.length → la = some ⟨LV, 0, none⟩
  nd : (R.map (·.1)).Nodup
  rr : ∀ (j : Nat) (r : Rw), R[j]? = some r → r.1 ≠ LV ∧ r.2.1 ≤ r.2.2 ∧ r.2.2 ≤ maxLen ∧ r.2.1 ≤ 70000
/-- The blocks that are written. -/
def gwB (LV : Nat) (R : List Rw) : List Nat := R.map (fun _ => LV) ++ R.map (·.1)
theorem mem_gwB {LV : Nat} {R : List Rw} {g : Nat} : g ∈ gwB LV R ↔ (0 < R.length ∧ g = LV) ∨ ∃ r ∈ R, r.1 = g := by
  unfold gwB
  rw [List.mem_append, List.mem_map, List.mem_map]
  refine or_congr ⟨fun ⟨a, h, e⟩ => ⟨List.length_pos_of_mem h, e.symm⟩, fun ⟨h, e⟩ => ?_⟩ Iff.rfl
  obtain ⟨a, ha⟩ := List.exists_mem_of_length_pos h
  exact ⟨a, ha, e.symm⟩
/-- The lists, as long as f says, holding what ct says; all other blocks stand. -/
structure GW (es : Nat) (et lt : TypeId) (LV : Nat) (R : List Rw) (w0 : World) (f : Nat → Nat) (ct : Nat → Nat → Nat → Value) (w : World) : Prop where
  k : KBs (gwB LV R) w0 w
  l : 0 < R.length → ∃ cl : Array Value, w.heap[LV]? = some (.cells cl lt (0, 0)) ∧ ∀ (j : Nat) (r : Rw), R[j]? = some r → cl[j]? = some (.slice (some ⟨r.1, 0, none⟩) (f j) r.2.2)
  m : ∀ (j : Nat) (r : Rw), R[j]? = some r → ∃ c, RowC w r.1 et (r.2.2 * es) c ∧ f j ≤ r.2.2 ∧ ∀ k, k < f j → ∀ q, q < es → c (k * es + q) = ct j k q
section
variable {es : Nat} {et lt : TypeId} {LV : Nat} {R : List Rw} {la : Option Addr} {w0 : World} {f f' : Nat → Nat} {ct ct' : Nat → Nat → Nat → Value} {w w' : World}
theorem GW.same (h : GW es et lt LV R w0 f ct w) (hh : Below w.heap.size w w') : GW es et lt LV R w0 f ct w' := by
  refine ⟨h.k.trans (KBs.of_below hh (bs := [])) (fun g hg => by simp at hg), fun h0 => ?_, fun j r hj => ?_⟩
  · obtain ⟨cl, h1, h2⟩ := h.l h0
    exact ⟨cl, heap_keep h1 hh, h2⟩
  · obtain ⟨c, h1, h2⟩ := h.m j r hj
    exact ⟨c, h1.keep (hh.block r.1 h1.lt), h2⟩
theorem GW.drew (h : GW es et lt LV R w0 f ct w) : GW es et lt LV R w0 f ct w.drew := h.same (drew_below w)
theorem GW.alloc (h : GW es et lt LV R w0 f ct w) (o : Obj) : GW es et lt LV R w0 f ct (w.alloc o) := h.same (alloc_below w o)
/-- Another block stands. -/
theorem GW.other (h : GW es et lt LV R w0 f ct w) {g : Nat} (hg : g < w0.heap.size) (h1 : 0 < R.length → g ≠ LV) (h2 : ∀ r ∈ R, r.1 ≠ g) : w.heap[g]? = w0.heap[g]? :=
  h.k.block g hg (fun hm => by
    rcases mem_gwB.1 hm with ⟨h, e⟩ | ⟨r, h, e⟩
    · exact h1 h e
    · exact h2 r h e)
theorem GC.inj (C : GC LV R la) {i j : Nat} {r q : Rw} (hi : R[i]? = some r) (hj : R[j]? = some q) (e : r.1 = q.1) : i = j := by
  have hi' : i < R.length := (List.getElem?_eq_some_iff.1 hi).1
  have hj' : j < R.length := (List.getElem?_eq_some_iff.1 hj).1
  have e1 : (R.map (·.1))[i]? = some r.1 := by rw [List.getElem?_map, hi]; rfl
  have e2 : (R.map (·.1))[j]? = some r.1 := by rw [List.getElem?_map, hj, e]; rfl
  exact (List.getElem?_inj (by simpa using hi') C.nd).1 (e1.trans e2.symm)
theorem GW.cellL (h : GW es et lt LV R w0 f ct w) {i : Nat} {r : Rw} (hi : R[i]? = some r) : w.cell? ⟨LV, i, none⟩ = some (.slice (some ⟨r.1, 0, none⟩) (f i) r.2.2) ∧ w.frozen? ⟨LV, i, none⟩ = false := by
  obtain ⟨cl, h1, h2⟩ := h.l (by have := (List.getElem?_eq_some_iff.1 hi).1; omega)
  exact ⟨(heapcell h1 i).1.trans (h2 i r hi), (heapcell h1 i).2⟩
theorem GW.cellM (h : GW es et lt LV R w0 f ct w) {i k q : Nat} {r : Rw} (hi : R[i]? = some r) (hk : k < f i) (hq : q < es) : w.cell? ⟨r.1, k * es + q, none⟩ = some (ct i k q) := by
  obtain ⟨c, h1, h2, h3⟩ := h.m i r hi
  rw [← h3 k hk q hq]
  refine (h1.cell ?_).1
  have : (k + 1) * es ≤ r.2.2 * es := Nat.mul_le_mul_right es (by omega)
  rw [Nat.add_mul] at this
  omega
theorem GW.cellR (h : GW es et lt LV R w0 f ct w) {i p : Nat} {r : Rw} (hi : R[i]? = some r) (hp : p < r.2.2 * es) : (∃ v, w.cell? ⟨r.1, p, none⟩ = some v) ∧ w.frozen? ⟨r.1, p, none⟩ = false := by
  obtain ⟨c, h1, _⟩ := h.m i r hi
  exact ⟨⟨_, (h1.cell hp).1⟩, (h1.cell hp).2⟩
theorem GW.lts (h : GW es et lt LV R w0 f ct w) {i : Nat} {r : Rw} (hi : R[i]? = some r) : LV < w.heap.size ∧ r.1 < w.heap.size := by
  obtain ⟨cl, h1, _⟩ := h.l (by have := (List.getElem?_eq_some_iff.1 hi).1; omega)
  obtain ⟨c, h2, _⟩ := h.m i r hi
  exact ⟨(Array.getElem?_eq_some_iff.1 h1).1, h2.lt⟩
/-- A list's item is written. -/
theorem GW.elem (C : GC LV R la) (hes : 0 < es) (h : GW es et lt LV R w0 f ct w) {i k0 : Nat} {r : Rw} (hi : R[i]? = some r) (vals : Nat → Value) (hk : KBs [r.1] w w')
    (hrow : ∀ c, RowC w r.1 et (r.2.2 * es) c → RowC w' r.1 et (r.2.2 * es) (fun p => if p / es = k0 then vals (p % es) else c p)) :
    GW es et lt LV R w0 f (fun j k q => if j = i ∧ k = k0 then vals q else ct j k q) w' := by
  have hri : r ∈ R := List.mem_of_getElem? hi
  refine ⟨h.k.trans hk (fun g hg => .inl ?_), fun h0 => ?_, fun j s hj => ?_⟩
  · simp at hg; subst hg
    exact mem_gwB.2 (.inr ⟨r, hri, rfl⟩)
  · obtain ⟨cl, h1, h2⟩ := h.l h0
    refine ⟨cl, (hk.block LV (Array.getElem?_eq_some_iff.1 h1).1 (fun hm => ?_)).trans h1, h2⟩
    simp at hm
    exact (C.rr i r hi).1 hm.symm
  · obtain ⟨c, h1, h2, h3⟩ := h.m j s hj
    by_cases hji : j = i
    · subst hji
      obtain rfl : s = r := by rw [hi] at hj; exact (Option.some.inj hj).symm
      refine ⟨_, hrow c h1, h2, fun k hk q hq => ?_⟩
      have e1 : (k * es + q) / es = k := by rw [Nat.mul_comm, Nat.mul_add_div hes, Nat.div_eq_of_lt hq, Nat.add_zero]
      have e2 : (k * es + q) % es = q := by rw [Nat.mul_comm, Nat.mul_add_mod, Nat.mod_eq_of_lt hq]
      simp only [e1, e2, true_and]
      split
      · rfl
      · exact h3 k hk q hq
    · refine ⟨c, h1.keep (hk.block s.1 h1.lt (fun hm => ?_)), h2, fun k hk q hq => ?_⟩
      · simp at hm
        exact hji (C.inj hj hi hm)
      · simp only [hji, false_and, if_false]
        exact h3 k hk q hq
/-- A list's length is written. -/
theorem GW.len (C : GC LV R la) (h : GW es et lt LV R w0 f ct w) {i n : Nat} {r : Rw} (hi : R[i]? = some r) (hn : n ≤ r.2.2) (ct' : Nat → Nat → Nat → Value) (hct : ∀ j, j ≠ i → ct' j = ct j) (hci : ∀ c, RowC w r.1 et (r.2.2 * es) c → (∀ k, k < f i → ∀ q, q < es → c (k * es + q) = ct i k q) → ∀ k, k < n → ∀ q, q < es → c (k * es + q) = ct' i k q) :
    GW es et lt LV R w0 (fun j => if j = i then n else f j) ct' (w.setCell ⟨LV, i, none⟩ (.slice (some ⟨r.1, 0, none⟩) n r.2.2)) := by
  have hp : 0 < R.length := by have := (List.getElem?_eq_some_iff.1 hi).1; omega
  refine ⟨h.k.trans (KBs.set LV i _) (fun g hg => .inl ?_), fun h0 => ?_, fun j s hj => ?_⟩
  · simp at hg
    exact mem_gwB.2 (.inl ⟨hp, hg⟩)
  · obtain ⟨cl, h1, h2⟩ := h.l h0
    refine ⟨cl.set! i _, heap_setA h1 _, fun j q hj => ?_⟩
    by_cases hij : j = i
    · subst hij
      have : q = r := by rw [hi] at hj; exact (Option.some.inj hj).symm
      subst this
      have : j < cl.size := (Array.getElem?_eq_some_iff.1 (h2 j q hj)).1
      simp [Array.set!_eq_setIfInBounds, this]
    · rw [Array.set!_eq_setIfInBounds, Array.getElem?_setIfInBounds_ne (fun e => hij e.symm)]
      simp [hij]; exact h2 j q hj
  · obtain ⟨c, h1, h2, h3⟩ := h.m j s hj
    refine ⟨c, h1.keep (heap_set_ne _ (C.rr j s hj).1), ?_, fun k hk q hq => ?_⟩
    · by_cases hij : j = i
      · subst hij
        have : s = r := by rw [hi] at hj; exact (Option.some.inj hj).symm
        subst this
        simpa using hn
      · simpa [hij] using h2
    · by_cases hij : j = i
      · subst hij
        have : s = r := by rw [hi] at hj; exact (Option.some.inj hj).symm
        subst this
        simp at hk
        exact hci c h1 h3 k hk q hq
      · simp [hij] at hk
        rw [hct j hij]
        exact h3 k hk q hq
/-- A list grows by one. -/
theorem GW.grow (C : GC LV R la) (hes : 0 < es) (h : GW es et lt LV R w0 f ct w) {i : Nat} {r : Rw} (hi : R[i]? = some r) (hlt : f i < r.2.2) (vals : Nat → Value) (hk : KBs [r.1] w w')
    (hrow : ∀ c, RowC w r.1 et (r.2.2 * es) c → RowC w' r.1 et (r.2.2 * es) (fun p => if p / es = f i then vals (p % es) else c p)) :
    GW es et lt LV R w0 (fun j => if j = i then f i + 1 else f j) (fun j k q => if j = i ∧ k = f i then vals q else ct j k q) (w'.setCell ⟨LV, i, none⟩ (.slice (some ⟨r.1, 0, none⟩) (f i + 1) r.2.2)) := by
  have hri : r ∈ R := List.mem_of_getElem? hi
  have hp : 0 < R.length := by have := (List.getElem?_eq_some_iff.1 hi).1; omega
  have h' := h.elem C hes hi vals hk hrow
  refine ⟨h'.k.trans (KBs.set LV i _) (fun g hg => .inl ?_), fun h0 => ?_, fun j s hj => ?_⟩
  · simp at hg
    exact mem_gwB.2 (.inl ⟨hp, hg⟩)
  · obtain ⟨cl, h1, h2⟩ := h'.l h0
    refine ⟨cl.set! i _, heap_setA h1 _, fun j q hj => ?_⟩
    by_cases hij : j = i
    · subst hij
      have : q = r := by rw [hi] at hj; exact (Option.some.inj hj).symm
      subst this
      have : j < cl.size := (Array.getElem?_eq_some_iff.1 (h2 j q hj)).1
      simp [Array.set!_eq_setIfInBounds, this]
    · rw [Array.set!_eq_setIfInBounds, Array.getElem?_setIfInBounds_ne (fun e => hij e.symm)]
      simp [hij]; exact h2 j q hj
  · obtain ⟨c0, g1, g2, g3⟩ := h.m j s hj
    by_cases hij : j = i
    · subst hij
      have : s = r := by rw [hi] at hj; exact (Option.some.inj hj).symm
      subst this
      refine ⟨_, (hrow c0 g1).keep (heap_set_ne _ (C.rr j s hj).1), by simp; omega, fun k hk q hq => ?_⟩
      have e1 : (k * es + q) / es = k := by rw [Nat.mul_comm, Nat.mul_add_div hes, Nat.div_eq_of_lt hq, Nat.add_zero]
      have e2 : (k * es + q) % es = q := by rw [Nat.mul_comm, Nat.mul_add_mod, Nat.mod_eq_of_lt hq]
      simp only [e1, e2, true_and]
      split
      · rfl
      · rename_i hne
        simp at hk
        exact g3 k (by omega) q hq
    · obtain ⟨c, h1, h2, h3⟩ := h'.m j s hj
      refine ⟨c, h1.keep (heap_set_ne _ (C.rr j s hj).1), by simpa [hij] using h2, fun k hk q hq => ?_⟩
      simp only [hij, if_false] at hk
      exact h3 k hk q hq
end
theorem row_one {w : World} {g : Nat} {t : TypeId} {n : Nat} {c : Nat → Value} (h : RowC w g t (n * 1) c) (k0 : Nat) (v : Value) : RowC (w.setCell ⟨g, k0, none⟩ v) g t (n * 1) (fun p => if p / 1 = k0 then (fun _ => v) (p % 1) else c p) :=
  (h.set k0 v).congr (fun p _ => by simp)
def four (a b c d : Value) (q : Nat) : Value := if q = 0 then a else if q = 1 then b else if q = 2 then c else d
theorem row_four {w : World} {g : Nat} {t : TypeId} {n : Nat} {c : Nat → Value} (h : RowC w g t (n * 4) c) (k0 : Nat) (x0 x1 x2 x3 : Value) :
    RowC ((((w.setCell ⟨g, k0 * 4, none⟩ x0).setCell ⟨g, k0 * 4 + 1, none⟩ x1).setCell ⟨g, k0 * 4 + 2, none⟩ x2).setCell ⟨g, k0 * 4 + 3, none⟩ x3) g t (n * 4) (fun p => if p / 4 = k0 then four x0 x1 x2 x3 (p % 4) else c p) := by
  refine ((((h.set _ x0).set _ x1).set _ x2).set _ x3).congr (fun p _ => ?_)
  unfold four
  by_cases h0 : p = k0 * 4 + 3
  · subst h0
    have e1 : (k0 * 4 + 3) / 4 = k0 := by omega
    have e2 : (k0 * 4 + 3) % 4 = 3 := by omega
    simp [e1, e2]
  · by_cases h1 : p = k0 * 4 + 2
    · subst h1
      have e1 : (k0 * 4 + 2) / 4 = k0 := by omega
      have e2 : (k0 * 4 + 2) % 4 = 2 := by omega
      simp [e1, e2]
    · by_cases h2 : p = k0 * 4 + 1
      · subst h2
        have e1 : (k0 * 4 + 1) / 4 = k0 := by omega
        have e2 : (k0 * 4 + 1) % 4 = 1 := by omega
        simp [e1, e2]
      · by_cases h3 : p = k0 * 4
        · subst h3
          have e1 : (k0 * 4) / 4 = k0 := by omega
          have e2 : (k0 * 4) % 4 = 0 := by omega
          simp [e1, e2]
        · have e1 : ¬ p / 4 = k0 := by omega
          simp [e1, h0, h1, h2, h3]
theorem kbs_one {w : World} {g k0 : Nat} {v : Value} : KBs [g] w (w.setCell ⟨g, k0, none⟩ v) := KBs.set g k0 v
theorem kbs_four {w : World} {g o0 o1 o2 o3 : Nat} {x0 x1 x2 x3 : Value} : KBs [g] w ((((w.setCell ⟨g, o0, none⟩ x0).setCell ⟨g, o1, none⟩ x1).setCell ⟨g, o2, none⟩ x2).setCell ⟨g, o3, none⟩ x3) :=
  (((KBs.set g o0 x0).trans (KBs.set g o1 x1) (fun _ h => .inl h)).trans (KBs.set g o2 x2) (fun _ h => .inl h)).trans (KBs.set g o3 x3) (fun _ h => .inl h)
end

section
open Go.RowKit
set_option maxRecDepth 100000
/-- The lists, told by how long each is and by what is so of each item. -/
def GX (es : Nat) (et lt : TypeId) (LV : Nat) (R : List Rw) (w0 : World) (F : Nat → Nat) (Inv : Nat → Nat → Nat → Value → Prop) (w : World) : Prop :=
  ∃ f ct, GW es et lt LV R w0 f ct w ∧ (∀ (j : Nat) (r : Rw), R[j]? = some r → f j = F j) ∧ (∀ (j : Nat) (r : Rw), R[j]? = some r → ∀ k, k < F j → ∀ q, q < es → Inv j k q (ct j k q))
section
variable {es : Nat} {et lt : TypeId} {LV : Nat} {R : List Rw} {la : Option Addr} {w0 : World} {F F' : Nat → Nat} {Inv Inv' : Nat → Nat → Nat → Value → Prop} {w w' : World}
theorem GX.same (h : GX es et lt LV R w0 F Inv w) (hh : Below w.heap.size w w') : GX es et lt LV R w0 F Inv w' := by
  obtain ⟨f, ct, h1, h2⟩ := h
  exact ⟨f, ct, h1.same hh, h2⟩
theorem GX.drew (h : GX es et lt LV R w0 F Inv w) : GX es et lt LV R w0 F Inv w.drew := h.same (drew_below w)
theorem GX.alloc (h : GX es et lt LV R w0 F Inv w) (o : Obj) : GX es et lt LV R w0 F Inv (w.alloc o) := h.same (alloc_below w o)
theorem GX.mono (h : GX es et lt LV R w0 F Inv w) (hF : ∀ (j : Nat) (r : Rw), R[j]? = some r → F' j = F j) (hI : ∀ (j : Nat) (r : Rw), R[j]? = some r → ∀ k q v, k < F j → Inv j k q v → Inv' j k q v) : GX es et lt LV R w0 F' Inv' w := by
  obtain ⟨f, ct, h1, h2, h3⟩ := h
  exact ⟨f, ct, h1, fun j r hj => by rw [hF j r hj]; exact h2 j r hj, fun j r hj k hk q hq => by
    rw [hF j r hj] at hk
    exact hI j r hj k q _ hk (h3 j r hj k hk q hq)⟩
theorem GX.k (h : GX es et lt LV R w0 F Inv w) : KBs (gwB LV R) w0 w := by
  obtain ⟨f, ct, h1, _⟩ := h
  exact h1.k
theorem GX.other (h : GX es et lt LV R w0 F Inv w) {g : Nat} (hg : g < w0.heap.size) (h1 : 0 < R.length → g ≠ LV) (h2 : ∀ r ∈ R, r.1 ≠ g) : w.heap[g]? = w0.heap[g]? := by
  obtain ⟨f, ct, h3, _⟩ := h
  exact h3.other hg h1 h2
theorem GX.cellL (h : GX es et lt LV R w0 F Inv w) {i : Nat} {r : Rw} (hi : R[i]? = some r) : w.cell? ⟨LV, i, none⟩ = some (.slice (some ⟨r.1, 0, none⟩) (F i) r.2.2) ∧ w.frozen? ⟨LV, i, none⟩ = false := by
  obtain ⟨f, ct, h1, h2, h3⟩ := h
  have := h1.cellL hi
  rwa [h2 i r hi] at this
theorem GX.cellM (h : GX es et lt LV R w0 F Inv w) {i k q : Nat} {r : Rw} (hi : R[i]? = some r) (hk : k < F i) (hq : q < es) : ∃ v, w.cell? ⟨r.1, k * es + q, none⟩ = some v ∧ Inv i k q v := by
  obtain ⟨f, ct, h1, h2, h3⟩ := h
  exact ⟨_, h1.cellM hi (by rw [h2 i r hi]; exact hk) hq, h3 i r hi k hk q hq⟩
theorem GX.cellR (h : GX es et lt LV R w0 F Inv w) {i p : Nat} {r : Rw} (hi : R[i]? = some r) (hp : p < r.2.2 * es) : (∃ v, w.cell? ⟨r.1, p, none⟩ = some v) ∧ w.frozen? ⟨r.1, p, none⟩ = false := by
  obtain ⟨f, ct, h1, _⟩ := h
  exact h1.cellR hi hp
theorem GX.lts (h : GX es et lt LV R w0 F Inv w) {i : Nat} {r : Rw} (hi : R[i]? = some r) : LV < w.heap.size ∧ r.1 < w.heap.size := by
  obtain ⟨f, ct, h1, _⟩ := h
  exact h1.lts hi
theorem GX.elem (C : GC LV R la) (hes : 0 < es) (h : GX es et lt LV R w0 F Inv w) {i k0 : Nat} {r : Rw} (hi : R[i]? = some r) (vals : Nat → Value) (hk : KBs [r.1] w w')
    (hrow : ∀ c, RowC w r.1 et (r.2.2 * es) c → RowC w' r.1 et (r.2.2 * es) (fun p => if p / es = k0 then vals (p % es) else c p))
    (hold : ∀ j k q v, ¬ (j = i ∧ k = k0) → Inv j k q v → Inv' j k q v) (hnew : ∀ q, Inv' i k0 q (vals q)) : GX es et lt LV R w0 F Inv' w' := by
  obtain ⟨f, ct, h1, h2, h3⟩ := h
  refine ⟨f, _, h1.elem C hes hi vals hk hrow, h2, fun j s hj k hk q hq => ?_⟩
  try dsimp only
  split
  · rename_i e
    rw [e.1, e.2]; exact hnew q
  · rename_i e
    exact hold j k q _ e (h3 j s hj k hk q hq)
theorem GX.grow (C : GC LV R la) (hes : 0 < es) (h : GX es et lt LV R w0 F Inv w) {i n : Nat} {r : Rw} (hi : R[i]? = some r) (hn : F i = n) (hlt : n < r.2.2) (vals : Nat → Value) (hk : KBs [r.1] w w')
    (hrow : ∀ c, RowC w r.1 et (r.2.2 * es) c → RowC w' r.1 et (r.2.2 * es) (fun p => if p / es = n then vals (p % es) else c p))
    (hF : ∀ (j : Nat), F' j = if j = i then n + 1 else F j) (hold : ∀ j k q v, ¬ (j = i ∧ k = n) → Inv j k q v → Inv' j k q v) (hnew : ∀ q, Inv' i n q (vals q)) :
    GX es et lt LV R w0 F' Inv' (w'.setCell ⟨LV, i, none⟩ (.slice (some ⟨r.1, 0, none⟩) (n + 1) r.2.2)) := by
  obtain ⟨f, ct, h1, h2, h3⟩ := h
  have hfi : f i = n := by rw [h2 i r hi]; exact hn
  have hg := h1.grow C hes hi (by rw [hfi]; exact hlt) vals hk (by rw [hfi]; exact hrow)
  rw [hfi] at hg
  refine ⟨_, _, hg, fun j s hj => ?_, fun j s hj k hk q hq => ?_⟩
  · try dsimp only
    rw [hF]
    split
    · rfl
    · exact h2 j s hj
  · try dsimp only
    split
    · rename_i e
      rw [e.1, e.2]; exact hnew q
    · rename_i e
      refine hold j k q _ e (h3 j s hj k ?_ q hq)
      rw [hF] at hk
      by_cases hji : j = i
      · subst hji
        rw [if_pos rfl] at hk
        have : k ≠ n := fun e2 => e ⟨rfl, e2⟩
        omega
      · rwa [if_neg hji] at hk
end
def fA (R : List Rw) (i c j : Nat) : Nat := if j < i then endR R j else if j = i then c else lenR R j
theorem fA_self (R : List Rw) (i c : Nat) : fA R i c i = c := by simp [fA]
theorem fA_next (R : List Rw) (i c : Nat) : ∀ j, fA R i (c + 1) j = if j = i then c + 1 else fA R i c j := fun j => by
  unfold fA
  by_cases h : j = i
  · subst h; simp
  · simp [h]
theorem fA_end (R : List Rw) (i : Nat) : ∀ j, fA R (i + 1) (lenR R (i + 1)) j = fA R i (endR R i) j := fun j => by
  unfold fA
  by_cases h1 : j < i
  · rw [if_pos h1, if_pos (by omega)]
  · by_cases h2 : j = i
    · subst h2; rw [if_pos (by omega), if_neg h1, if_pos rfl]
    · rw [if_neg (by omega : ¬ j < i + 1), if_neg h1, if_neg h2]
      by_cases h3 : j = i + 1
      · subst h3; simp
      · simp [h3]
theorem fA_done (R : List Rw) (c : Nat) {j : Nat} {r : Rw} (h : R[j]? = some r) : fA R R.length c j = endR R j := by
  have : j < R.length := (List.getElem?_eq_some_iff.1 h).1
  simp [fA, this]
theorem fA_start (R : List Rw) : ∀ j, fA R 0 (lenR R 0) j = lenR R j := fun j => by
  unfold fA
  by_cases h0 : j = 0
  · subst h0; simp
  · simp [h0]
theorem end_le {LV : Nat} {R : List Rw} {la : Option Addr} (C : GC LV R la) {j : Nat} {r : Rw} (hj : R[j]? = some r) : r.2.1 ≤ endR R j ∧ endR R j ≤ r.2.2 ∧ (endR R j : Int) = min (r.2.2 : Int) ((r.2.1 : Int) + 70000) := by
  have := C.rr j r hj
  unfold endR
  rw [capR_get hj, lenR_get hj]
  omega
/-- What a grown list's items are. -/
def InvT (R : List Rw) (mk sp : Nat → Nat → Value) (j k q : Nat) (v : Value) : Prop := v = if k < lenR R j then mk j q else sp j q
/-- How long a list is just now. -/
def lenAt (LV i : Nat) (w : World) : Nat := match w.cell? ⟨LV, i, none⟩ with
  | some (.slice _ n _) => n
  | _ => 0
theorem lenAt_eq {LV i : Nat} {w : World} {a : Option Addr} {n c : Nat} (h : w.cell? ⟨LV, i, none⟩ = some (.slice a n c)) : lenAt LV i w = n := by
  unfold lenAt; rw [h]
theorem meas_lt {E a b c : Nat} (h1 : a = c + 1) (h2 : b = c) (h : c < E) : E - a < E - b := by omega
/-- An append of one where there is room. -/
theorem step_append_one {P : Program} {ops : Array Oper} {o : Oper} {a : Act} {w : World} {K : Act → World → Prop} {Q : Exit → Act → World → Prop} {E : Prop}
    (hg : o.guard = none) (s x : Operand) (t : TypeId) (hop : o.op = Op.call { callee := Callee.builtin Builtin.append, args := #[s, x], argTypes := #[t, t] })
    (e : TypeId) (i : TypeInfo) (h1 : P.underlying t = some (.slice e)) (h2 : P.info? e = some i) (h4 : i.size = 1)
    (b n cap : Nat) (hs : a.eval s = .slice (some ⟨b, 0, none⟩) n cap)
    (ad : Addr) (c : Nat) (v : Value) (hx : a.eval x = .slice (some ad) 1 c) (hc : ∀ j u, [v][j]? = some u → w.cell? (ad.add j) = some u) (h1c : v.oneCell' = true)
    (hroom : n + 1 ≤ cap) (hsp : (w.cell? ⟨b, n, none⟩).isSome = true ∧ w.frozen? ⟨b, n, none⟩ = false)
    (hK : K (a.put o.dst (.slice (some ⟨b, 0, none⟩) (n + 1) cap)) (w.setCell ⟨b, n, none⟩ v)) :
    if Region.wanted o (yielded ops a.tmps) = true then Oper.wp P o a w K Q else E := by
  refine step_append_room hg s x t hop e i 1 h1 h2 h4 b 0 n cap hs ad 1 c [v] hx rfl hc (fun u hu => by simp at hu; subst hu; exact h1c) hroom (fun j hj => ?_) ?_
  · have : j = 0 := by simpa using hj
    subst this
    simpa using hsp
  · simpa [World.setCells] using hK
/-- An append of one item of four cells where there is room. -/
theorem step_append_four {P : Program} {ops : Array Oper} {o : Oper} {a : Act} {w : World} {K : Act → World → Prop} {Q : Exit → Act → World → Prop} {E : Prop}
    (hg : o.guard = none) (s x : Operand) (t : TypeId) (hop : o.op = Op.call { callee := Callee.builtin Builtin.append, args := #[s, x], argTypes := #[t, t] })
    (e : TypeId) (i : TypeInfo) (h1 : P.underlying t = some (.slice e)) (h2 : P.info? e = some i) (h4 : i.size = 4)
    (b n cap : Nat) (hs : a.eval s = .slice (some ⟨b, 0, none⟩) n cap)
    (ad : Addr) (c : Nat) (x0 x1 x2 x3 : Value) (hx : a.eval x = .slice (some ad) 1 c) (hc : ∀ j u, [x0, x1, x2, x3][j]? = some u → w.cell? (ad.add j) = some u) (h1c : ∀ u ∈ [x0, x1, x2, x3], u.oneCell' = true)
    (hroom : n + 1 ≤ cap) (hsp : ∀ q, q < 4 → (w.cell? ⟨b, n * 4 + q, none⟩).isSome = true ∧ w.frozen? ⟨b, n * 4 + q, none⟩ = false)
    (hK : K (a.put o.dst (.slice (some ⟨b, 0, none⟩) (n + 1) cap)) ((((w.setCell ⟨b, n * 4, none⟩ x0).setCell ⟨b, n * 4 + 1, none⟩ x1).setCell ⟨b, n * 4 + 2, none⟩ x2).setCell ⟨b, n * 4 + 3, none⟩ x3)) :
    if Region.wanted o (yielded ops a.tmps) = true then Oper.wp P o a w K Q else E := by
  refine step_append_room hg s x t hop e i 4 h1 h2 h4 b 0 n cap hs ad 1 c [x0, x1, x2, x3] hx rfl hc h1c hroom (fun j hj => ?_) ?_
  · rw [Nat.zero_add]; exact hsp j hj
  · simpa [World.setCells] using hK
/-- Out of a book. -/
theorem BK.gc {P : BP} {base B : Nat} {w : World} {R : List Rw} {lv nv kv : Value} {z : Int} {kn : Nat} {ks : List Value} (h : BK P base w B R lv nv kv z kn ks) :
    ∃ LV NV la na lc nc, lv = .slice la R.length lc ∧ nv = .slice na R.length nc ∧ GC LV R la ∧ (0 < R.length → na = some ⟨NV, 0, none⟩ ∧ NV < w.heap.size ∧ NV ≠ LV ∧ B ≠ LV) ∧ (∀ r ∈ R, r.1 ≠ B ∧ (0 < R.length → r.1 ≠ NV)) ∧
      (∀ (j : Nat) (r : Rw), R[j]? = some r → w.cell? ⟨NV, j, none⟩ = some (.int .i64 (r.2.1 : Nat))) ∧ (∀ g ∈ gwB LV R, base ≤ g) ∧ ∀ sp, GX P.es P.et P.lt LV R w (lenR R) (InvT R P.mark sp) w := by
  have hn := (nd4 _ _ _ _ _).1 h.nd
  have hlt := h.lt
  have rr : ∀ (j : Nat) (r : Rw), R[j]? = some r → r.1 ≠ B ∧ lv.ownBlock ≠ some r.1 ∧ nv.ownBlock ≠ some r.1 ∧ r.2.1 ≤ r.2.2 ∧ r.2.2 ≤ maxLen ∧ r.2.1 ≤ 70000 := fun j r hj => by
    have hm : r ∈ R := List.mem_of_getElem? hj
    have hmm : r.1 ∈ R.map (·.1) := List.mem_map.2 ⟨r, hm, rfl⟩
    obtain ⟨c, _, q, _⟩ := h.m j r hj
    exact ⟨fun e => hn.2.2.2.1 (e ▸ hmm), fun e => (hn.1 _ e).2.2.2 hmm, fun e => (hn.2.1 _ e).2.2 hmm, q⟩
  have hgw : ∀ LV (cl : 0 < R.length → ∃ cl : Array Value, w.heap[LV]? = some (.cells cl P.lt (0, 0)) ∧ ∀ (j : Nat) (r : Rw), R[j]? = some r → cl[j]? = some (.slice (some ⟨r.1, 0, none⟩) (lenR R j) r.2.2)) (sp : Nat → Nat → Value), GX P.es P.et P.lt LV R w (lenR R) (InvT R P.mark sp) w := fun LV cl sp =>
    ⟨lenR R, fun j k q => if k < lenR R j then P.mark j q else sp j q, ⟨KBs.refl _ _, cl, fun j r hj => by
      obtain ⟨c, h1, h2, h3⟩ := h.m j r hj
      refine ⟨c, h1, by rw [lenR_get hj]; exact h2.1, fun k hk q hq => ?_⟩
      rw [if_pos hk, h3 k (by rw [lenR_get hj] at hk; exact hk) q hq]⟩, fun _ _ _ => rfl, fun j r hj k hk q hq => rfl⟩
  rcases h.l.2 with ⟨rfl, h0⟩ | ⟨LV, lc, cl, rfl, hl1, hl2, hl3, hl4, hl5, hl6⟩
  · have hR : R = [] := List.length_eq_zero_iff.1 h0
    subst hR
    obtain ⟨na, nc, rfl⟩ := own_slice h.n
    exact ⟨0, 0, none, na, 0, nc, rfl, rfl, ⟨fun h => by simp at h, by simp, fun j r hj => by simp at hj⟩, fun h => by simp at h, fun r hr => by simp at hr, fun j r hj => by simp at hj, fun g hg => by simp [gwB] at hg, fun sp => hgw 0 (fun h => by simp at h) sp⟩
  · rcases h.n.2 with ⟨rfl, h0⟩ | ⟨NV, nc, cn, rfl, hn1, hn2, hn3, hn4, hn5, hn6⟩
    · have hR : R = [] := List.length_eq_zero_iff.1 h0
      subst hR
      exact ⟨LV, 0, _, none, lc, 0, rfl, rfl, ⟨fun h => by simp at h, by simp, fun j r hj => by simp at hj⟩, fun h => by simp at h, fun r hr => by simp at hr, fun j r hj => by simp at hj, fun g hg => by simp [gwB] at hg, fun sp => hgw LV (fun h => by simp at h) sp⟩
    · have q1 := hn.1 LV rfl
      have q2 := hn.2.1 NV rfl
      refine ⟨LV, NV, _, _, lc, nc, rfl, rfl, ⟨fun _ => rfl, hn.2.2.2.2, fun j r hj => ?_⟩, fun _ => ⟨rfl, (Array.getElem?_eq_some_iff.1 hn2).1, fun e => q1.2.1 (by rw [← e]; rfl), fun e => q1.1 e.symm⟩, fun r hr => ?_, fun j r hj => ?_, fun g hg => ?_, fun sp => hgw LV (fun h0 => ⟨cl, hl2, fun j r hj => ?_⟩) sp⟩
      · have := rr j r hj
        exact ⟨fun e => this.2.1 (by rw [e]; rfl), this.2.2.2⟩
      · obtain ⟨j, hj⟩ := List.getElem?_of_mem hr
        have := rr j r hj
        exact ⟨this.1, fun _ e => this.2.2.1 (by rw [e]; rfl)⟩
      · have := h.n.cells (g := NV) rfl j (.int .i64 (r.2.1 : Nat)) (by rw [List.getElem?_map, hj]; rfl)
        rwa [addr_add0] at this
      · rcases mem_gwB.1 hg with ⟨_, e⟩ | ⟨r, hr, e⟩
        · rw [e]; exact hl1
        · rw [← e]; exact h.rb r hr
      · have : (R.map rowV)[j]? = some (rowV r) := by rw [List.getElem?_map, hj]; rfl
        rw [← hl6, List.getElem?_take] at this
        split at this
        · rw [lenR_get hj]; simpa [rowV] using this
        · cases this
end

section
open Go.RowKit
set_option maxRecDepth 100000
theorem info22 : (Tryz.prog.info? 22).map (fun i => (i.zero, i.size, i.bytes)) = some (some (.slice none 0 0), 1, 24) := by kernel_rfl
/-- A list in a row of its own has grown. -/
def LsE (base : Nat) (n : Nat) (rows out : List Value) (w : World) (e : Ending) (w' : World) : Prop := ∃ lv', e = .returned lv' ∧ w'.ownsRow base 22 1 lv' (n + out.length) (rows ++ out) ∧ Below base w w'
def kidsOf (la : Option Addr) (m lc : Nat) : List Value := if 0 < lc then [.slice la m lc] else []
theorem KidsAt.under {w w' : World} {la : Option Addr} {m base : Nat} {k s : ByteArray} {n : Int} (h : KidsAt w la m k n s) (hg : ∀ g, la = some ⟨g, 0, none⟩ → g < base) (hb : Below base w w') (hs : w.heap.size ≤ w'.heap.size) : KidsAt w' la m k n s := fun h0 => by
  obtain ⟨g, e, h1, h2⟩ := h h0
  have hk : ∀ j, w'.cell? ⟨g, j, none⟩ = w.cell? ⟨g, j, none⟩ := fun j => cellOf_heap (hb.block g (hg g e))
  refine ⟨g, e, Nat.lt_of_lt_of_le h1 hs, fun i hi => ?_⟩
  obtain ⟨a, b, c, d⟩ := h2 i hi
  exact ⟨(hk _).trans a, (hk _).trans b, (hk _).trans c, (hk _).trans d⟩
structure LsW (w : World) (base N : Nat) (k : ByteArray) (n : Int) (s : ByteArray) (kv sv : Value) (i : Nat) (xs : List Value) (wr : World) : Prop where
  t : wr.heap[N]? = some (.cells #[.string k, .int .i64 n, .string s, kv] 24 (0, 0))
  o : wr.ownsRow base 22 1 sv i xs
  b : Below base w wr
  h : base ≤ wr.heap.size
  on : sv.ownBlock ≠ some N
  wn : w.heap.size ≤ wr.heap.size
theorem LsW.step {w : World} {base N : Nat} {k : ByteArray} {n : Int} {s : ByteArray} {kv sv sv' : Value} {i : Nat} {xs ys : List Value} {wr w1 w2 : World} (h : LsW w base N k n s kv sv i xs wr) (hb : Below wr.heap.size wr w1) (hg : w1.grownBy w2 sv.ownBlock)
    (ho : w2.ownsRow base 22 1 sv' (i + 1) ys) (hblk : sv'.ownBlock = sv.ownBlock ∨ sv'.ownBlock = some w1.heap.size) : LsW w base N k n s kv sv' (i + 1) ys w2 := by
  have hT := (Array.getElem?_eq_some_iff.1 h.t).1
  have h1 := hb.size
  have h2 := hg.size
  have h3 := h.h
  have h4 := h.wn
  refine ⟨(hg.block N (by omega) (fun e => h.on e.symm)).trans (heap_keep h.t hb), ho, (h.b.trans (hb.mono h3)).grown hg (by omega) (fun g e => (h.o.lt g e).1), by omega, fun e => ?_, by omega⟩
  rcases hblk with h5 | h5
  · exact h.on (h5.symm.trans e)
  · rw [h5] at e; simp at e; omega
theorem LsW.below {w : World} {base N c : Nat} {k : ByteArray} {n : Int} {s : ByteArray} {kv sv : Value} {rows : List Value} {wr w1 : World} (h : LsW w base N k n s kv sv c rows wr) (hb : Below wr.heap.size wr w1) : LsW w base N k n s kv sv c rows w1 := by
  have h1 := hb.size
  have h3 := h.h
  have h4 := h.wn
  exact ⟨heap_keep h.t hb, ownsRow_keep h.o (fun g e => hb.block g (h.o.lt g e).2), h.b.trans (hb.mono h.h), by omega, h.on, by omega⟩
set_option maxHeartbeats 8000000 in
theorem lists_gen (w : World) (k : ByteArray) (n : Int) (s : ByteArray) (la : Option Addr) (m lc : Nat) (kx : ByteArray) (nx : Int) (sx : ByteArray) (base c : Nat) (lv : Value) (rows : List Value) (hm : m ≤ 3) (hmc : lc ≤ maxLen) (hk : KidsAt w la m kx nx sx) (hgb : ∀ g, la = some ⟨g, 0, none⟩ → g < base) (ho : w.ownsRow base 22 1 lv c rows) (hbs : base ≤ w.heap.size) (hc : c ≤ 1000)
    (hrec : 0 < m → ∀ W sv, (∃ a b c, sv = .slice a b c) → Calls Tryz.prog 35 #[.agg #[.string kx, .int .i64 nx, .string sx, .slice none 0 0], sv] W (RetB W sv)) :
    Calls Tryz.prog 35 #[.agg #[.string k, .int .i64 n, .string s, .slice la m lc], lv] w (LsE base c rows (kidsOf la m lc) w) := by
  obtain ⟨i22, hi22, hy0, hy1, hy2⟩ := info_parts info22
  have HI := Lib.hid (And.intro hi22 (And.intro hy0 (And.intro hy1 hy2)))
  have HK := Lib.hid hk
  have HREC := Lib.hid hrec
  have HGB := Lib.hid hgb
  have HLC : (lc : Int) ≤ 9223372036854775807 := by unfold maxLen at hmc; omega
  obtain ⟨sa, sc, rfl⟩ := own_slice ho
  have hb0 := alloc_below w (.cells #[.string k, .int .i64 n, .string s, .slice la m lc] 24)
  have hX : LsW w base w.heap.size k n s (.slice la m lc) (.slice sa c sc) c rows (w.alloc (.cells #[.string k, .int .i64 n, .string s, .slice la m lc] 24)) := ⟨heap_alloc_new _ _, ho.alloc _, hb0.mono hbs, by simp; omega, fun e => by have := (ho.lt _ e).2; omega, by simp⟩
  have HB0 := Lib.hid hb0
  clear hi22 hy0 hy1 hy2 hk hrec hbs hmc ho hb0 hgb
  go_enter Tryz.func35, Tryz.ntmps35
  go_upto_region 1 with fail
  generalize (w.alloc (.cells #[.string k, .int .i64 n, .string s, .slice la m lc] 24)) = w0 at hX HB0 ⊢
  obtain ⟨N, hN⟩ : ∃ N, N = w.heap.size := ⟨_, rfl⟩
  rw [← hN] at hX
  simp only [← hN]
  clear hN
  have HX := Lib.hid hX
  obtain ⟨t3, f3⟩ := heapcell hX.t 3
  clear hX
  by_cases hlc : 0 < lc
  · have hlcI : (0 : Int) < (lc : Int) := by omega
    have HO : Hid ((w0.alloc (.cells #[.slice la m lc] 22)).ownsRow base 22 1 (.slice sa c sc) c rows) := Lib.hid (HX.out.o.alloc _)
    have HSZ : Hid (base ≤ (w0.alloc (.cells #[.slice la m lc] 22)).heap.size) := Lib.hid (by have := HX.out.h; rw [World.size_alloc]; omega)
    have HKO : Hid (kidsOf la m lc = [.slice la m lc]) := Lib.hid (if_pos hlc)
    go_wp2_with (at_builtin; refine wpList_append_own_at _ rfl _ _ 37 rfl base 22 i22 (.slice none 0 0) 1 24 Tryz.underlying37 HI.out.1 HI.out.2.1 HI.out.2.2.1 HI.out.2.2.2 rfl (by decide) _ _ _ rfl HO.out ⟨w0.heap.size, 0, none⟩ 1 1 [.slice la m lc] rfl rfl ?c1 ?c2 ?c3 ?c4 HSZ.out ?_)
    case c1 => exact one_new _ _ _
    case c2 => intro u hu; simp at hu; subst hu; rfl
    case c3 => unfold maxLen; omega
    case c4 => omega
    intro kv' w5 hown hgrow _ hblk
    have HX5 := Lib.hid (HX.out.step (alloc_below w0 _) hgrow hown (by simpa using hblk))
    obtain ⟨ka', kc2, hks⟩ := own_slice hown
    subst hks
    clear hown hgrow hblk t3 f3
    go_wp2_with fail
    go_loopw [1, 5] (fun sv iv wr => ∃ (i : Nat), i ≤ m ∧ iv = .int .i64 i ∧ sv = .slice ka' (c + 1) kc2 ∧ Hid (LsW w base N k n s (.slice la m lc) (.slice ka' (c + 1) kc2) (c + 1) (rows ++ [.slice la m lc]) wr)) (fun _ iv _ => m - (intOf iv).toNat)
    case atStart => exact ⟨0, by omega, rfl, rfl, HX5⟩
    case round =>
      obtain ⟨i, hi, rfl, rfl, HX6⟩ := hrel
      obtain ⟨t3, f3⟩ := heapcell HX6.out.t 3
      by_cases hlt : i < m
      · have hltI : (i : Int) < (m : Int) := by omega
        obtain ⟨g, rfl, hgl, hg⟩ := (HK.out.under HGB.out HX6.out.b HX6.out.wn) (by omega)
        obtain ⟨g0, g1, g2, g3⟩ := hg i hlt
        clear hg
        go_wp2_with fail
        refine (HREC.out (by omega) _ _ ⟨_, _, _, rfl⟩).mono ?_
        rintro e w3 ⟨rfl, hb3⟩
        have HX7 := Lib.hid (HX6.out.below hb3)
        clear hb3 HX6 g0 g1 g2 g3 t3 f3
        go_wp2_with fail
        go_roundw
        case rel => exact ⟨i + 1, by omega, by go_num, rfl, HX7⟩
        case measure => simp [intOf]; omega
      · obtain rfl : i = m := by omega
        have hltI : ¬ (i : Int) < (i : Int) := by omega
        go_wp2_with fail
        go_ret
        exact ⟨_, rfl, by rw [HKO.out]; exact HX6.out.o, HX6.out.b⟩
  · have hlcI : ¬ (0 : Int) < (lc : Int) := by omega
    have HKO : Hid (kidsOf la m lc = []) := Lib.hid (if_neg hlc)
    go_wp2_with fail
    go_loopw [1, 5] (fun sv iv wr => ∃ (i : Nat), i ≤ m ∧ iv = .int .i64 i ∧ sv = .slice sa c sc ∧ Hid (LsW w base N k n s (.slice la m lc) (.slice sa c sc) c rows wr)) (fun _ iv _ => m - (intOf iv).toNat)
    case atStart => exact ⟨0, by omega, rfl, rfl, HX⟩
    case round =>
      obtain ⟨i, hi, rfl, rfl, HX6⟩ := hrel
      obtain ⟨t3, f3⟩ := heapcell HX6.out.t 3
      by_cases hlt : i < m
      · have hltI : (i : Int) < (m : Int) := by omega
        obtain ⟨g, rfl, hgl, hg⟩ := (HK.out.under HGB.out HX6.out.b HX6.out.wn) (by omega)
        obtain ⟨g0, g1, g2, g3⟩ := hg i hlt
        clear hg
        go_wp2_with fail
        refine (HREC.out (by omega) _ _ ⟨_, _, _, rfl⟩).mono ?_
        rintro e w3 ⟨rfl, hb3⟩
        have HX7 := Lib.hid (HX6.out.below hb3)
        clear hb3 HX6 g0 g1 g2 g3 t3 f3
        go_wp2_with fail
        go_roundw
        case rel => exact ⟨i + 1, by omega, by go_num, rfl, HX7⟩
        case measure => simp [intOf]; omega
      · obtain rfl : i = m := by omega
        have hltI : ¬ (i : Int) < (i : Int) := by omega
        go_wp2_with fail
        go_ret
        exact ⟨_, rfl, by rw [HKO.out]; simpa using HX6.out.o, HX6.out.b⟩
theorem lists_leaf (w : World) (k : ByteArray) (n : Int) (s : ByteArray) (sv : Value) (hsv : ∃ a b c, sv = .slice a b c) : Calls Tryz.prog 35 #[.agg #[.string k, .int .i64 n, .string s, .slice none 0 0], sv] w (RetB w sv) := by
  obtain ⟨a, b, c, rfl⟩ := hsv
  have hb0 := alloc_below w (.cells #[.string k, .int .i64 n, .string s, .slice none 0 0] 24)
  have hz := heap_alloc_new w (.cells #[.string k, .int .i64 n, .string s, .slice none 0 0] 24)
  go_enter Tryz.func35, Tryz.ntmps35
  go_upto_region 1 with fail
  generalize (w.alloc (.cells #[.string k, .int .i64 n, .string s, .slice none 0 0] 24)) = w0 at hb0 hz ⊢
  obtain ⟨N, hN⟩ : ∃ N, N = w.heap.size := ⟨_, rfl⟩
  rw [← hN] at hz
  simp only [← hN]
  clear hN
  have HB0 := Lib.hid hb0
  have HZ := Lib.hid hz
  obtain ⟨t3, f3⟩ := heapcell hz 3
  clear hb0 hz
  go_wp2_with fail
  go_loopw [1, 5] (fun sv iv wr => iv = .int .i64 0 ∧ sv = .slice a b c ∧ Hid (Below w.heap.size w wr ∧ wr.heap[N]? = some (.cells #[.string k, .int .i64 n, .string s, .slice none 0 0] 24 (0, 0)))) (fun _ _ _ => 0)
  case atStart => exact ⟨rfl, rfl, Lib.hid ⟨HB0.out, HZ.out⟩⟩
  case round =>
    obtain ⟨rfl, rfl, HX⟩ := hrel
    obtain ⟨t3, f3⟩ := heapcell HX.out.2 3
    go_wp2_with fail
    go_ret
    exact ⟨rfl, HX.out.1⟩
theorem lists_tree (w : World) (base c : Nat) (k : ByteArray) (n : Int) (s : ByteArray) (la : Option Addr) (m lc : Nat) (kx : ByteArray) (nx : Int) (sx : ByteArray) (lv : Value) (rows : List Value) (hm : m ≤ 3) (hmc : lc ≤ maxLen) (hk : KidsAt w la m kx nx sx) (hgb : ∀ g, la = some ⟨g, 0, none⟩ → g < base) (ho : w.ownsRow base 22 1 lv c rows) (hbs : base ≤ w.heap.size) (hc : c ≤ 1000) :
    Calls Tryz.prog 35 #[.agg #[.string k, .int .i64 n, .string s, .slice la m lc], lv] w (LsE base c rows (kidsOf la m lc) w) :=
  lists_gen w k n s la m lc kx nx sx base c lv rows hm hmc hk hgb ho hbs hc (fun _ W sv hsv => lists_leaf W kx nx sx sv hsv)
end

section
open Go.RowKit
set_option maxRecDepth 100000
/-- The trees' book. -/
def P1 : BP := { bt := 39, lt := 22, et := 24, kt := 24, es := 4, ks := 4, mark := fun j q => four (.string ⟨#[]⟩) (.int .i64 (-1 - (j : Int))) (.string ⟨#[]⟩) (.slice none 0 0) q }
/-- A tree: its four cells, and its kids' row if it has one. -/
structure Tr where
  x : List Value
  rs : List Rw
def TrOk (w : World) (t : Tr) : Prop := ∃ (k : ByteArray) (n : Int) (s : ByteArray) (la : Option Addr) (m lc : Nat) (kx : ByteArray) (nx : Int) (sx : ByteArray), t.x = [.string k, .int .i64 n, .string s, .slice la m lc] ∧ m ≤ 3 ∧ lc ≤ maxLen ∧ KidsAt w la m kx nx sx ∧ (∀ g, la = some ⟨g, 0, none⟩ → g < w.heap.size) ∧ kidsOf la m lc = t.rs.map rowV ∧ ∀ r ∈ t.rs, RowAt P1 w r
def outs (ts : List Tr) : List Rw := ts.flatMap (·.rs)
theorem outs_snoc (ts : List Tr) (i : Nat) (h : i < ts.length) : outs (ts.take (i + 1)) = outs (ts.take i) ++ ts[i].rs := by
  unfold outs
  rw [List.take_succ_eq_append_getElem h, List.flatMap_append]
  simp
theorem TrOk.below {w w' : World} {t : Tr} (h : TrOk w t) (hb : Below w.heap.size w w') : TrOk w' t := by
  obtain ⟨k, n, s, la, m, lc, kx, nx, sx, h1, h2, h3, h4, h5, h6, h7⟩ := h
  refine ⟨k, n, s, la, m, lc, kx, nx, sx, h1, h2, h3, h4.below hb, fun g e => Nat.lt_of_lt_of_le (h5 g e) hb.size, h6, fun r hr => ?_⟩
  obtain ⟨c, hc, _⟩ := h7 r hr
  exact (h7 r hr).keep (hb.block r.1 hc.lt)
structure TakeE (base B : Nat) (rows rs : List Rw) (lv nv kv : Value) (kn : Nat) (ks : List Value) (zc : Int) (P : BP) (w w' : World) (lv' nv' : Value) (z' : Int) : Prop where
  bk : BK P base w' B (rows ++ rs) lv' nv' kv z' kn ks
  z : z' ≤ zc * ((rows ++ rs).length : Int)
  kb : KBs (B :: (lv.ownBlock.toList ++ nv.ownBlock.toList ++ rs.map (·.1))) w w'
  nl : ∀ g, lv'.ownBlock = some g → lv.ownBlock = some g ∨ w.heap.size ≤ g
  nn : ∀ g, nv'.ownBlock = some g → nv.ownBlock = some g ∨ w.heap.size ≤ g
set_option maxHeartbeats 8000000 in
theorem take_any (w : World) (base B A c : Nat) (rows : List Rw) (lv nv kv : Value) (z : Int) (kn : Nat) (ks : List Value) (ts : List Tr)
    (hbk : BK P1 base w B rows lv nv kv z kn ks) (hts : ∀ t ∈ ts, TrOk w t) (hav : ∀ i (h : i < ts.length), ∀ q v, ts[i].x[q]? = some v → w.cell? ⟨A, i * 4 + q, none⟩ = some v) (hlen : ts.length ≤ 10) (hol : (outs ts).length + rows.length ≤ 4)
    (hnd : ((outs ts).map (·.1)).Nodup) (hrb : ∀ r ∈ outs ts, base ≤ r.1 ∧ r.1 ∉ bkB B rows lv nv kv) (hz : z ≤ 7001300 * (rows.length : Int)) :
    Calls Tryz.prog 10 #[.pointer (some ⟨B, 0, none⟩), .slice (some ⟨A, 0, none⟩) ts.length c] w fun e w' => e = .returned (.tuple #[]) ∧ ∃ lv' nv' z', TakeE base B rows (outs ts) lv nv kv kn ks 7001300 P1 w w' lv' nv' z' := by
  obtain ⟨i22, hi22, hq0, hq1, hq2⟩ := info_parts info22
  obtain ⟨i3, hi3, hp0, hp1, hp2⟩ := info_parts info3
  have HQ := Lib.hid (And.intro hi22 (And.intro hq0 (And.intro hq1 hq2)))
  have HP3 := Lib.hid (And.intro hi3 (And.intro hp0 (And.intro hp1 hp2)))
  clear hi22 hq0 hq1 hq2 hi3 hp0 hp1 hp2
  have HBK := Lib.hid hbk
  have HTS := Lib.hid hts
  have HAV := Lib.hid hav
  have HOL := Lib.hid hol
  have HND := Lib.hid hnd
  have HRB := Lib.hid hrb
  have HZ := Lib.hid hz
  clear hbk hts hav hol hnd hrb hz
  go_enter Tryz.func10, Tryz.ntmps10
  go_wp2_with fail
  go_loopw [4, 5] (fun sv iv wr => ∃ (i : Nat), i ≤ ts.length ∧ iv = .int .i64 i ∧ Hid (wr.ownsRow w.heap.size 22 1 sv (outs (ts.take i)).length ((outs (ts.take i)).map rowV)) ∧ Hid (Below w.heap.size w wr))
    (fun _ iv _ => ts.length - (intOf iv).toNat)
  case atStart => exact ⟨0, by omega, rfl, Lib.hid ⟨rfl, .inl ⟨rfl, rfl⟩⟩, Lib.hid (Below.refl _ _)⟩
  case round =>
    obtain ⟨i, hi, rfl, how, hB⟩ := hrel
    by_cases hlt : i < ts.length
    · have hltI : (i : Int) < (ts.length : Int) := by omega
      obtain ⟨k, n, s, la, m, lc, kx, nx, sx, hx, hm, hmc, hka, hla, hko, _⟩ := HTS.out ts[i] (List.getElem_mem hlt)
      have hcell : ∀ q v, ts[i].x[q]? = some v → wr.cell? ⟨A, i * 4 + q, none⟩ = some v := fun q v hq => cell_stepA (HAV.out i hlt q v hq) hB.out
      rw [hx] at hcell
      have x0 := hcell 0 _ rfl
      have x1 := hcell 1 _ rfl
      have x2 := hcell 2 _ rfl
      have x3 := hcell 3 _ rfl
      rw [Nat.add_zero] at x0
      have hcc : (outs (ts.take i)).length ≤ 1000 := by
        have h1 := HOL.out
        have : (outs ts).length = (outs (ts.take i)).length + (outs (ts.drop i)).length := by
          unfold outs
          rw [← List.length_append, ← List.flatMap_append, List.take_append_drop]
        omega
      have HC : Hid (Calls Tryz.prog 35 #[.agg #[.string k, .int .i64 n, .string s, .slice la m lc], u4] wr (LsE w.heap.size (outs (ts.take i)).length ((outs (ts.take i)).map rowV) (kidsOf la m lc) wr)) :=
        Lib.hid (lists_tree wr w.heap.size _ k n s la m lc kx nx sx u4 _ hm hmc (hka.below hB.out) hla how.out hB.out.size hcc)
      have HKO := Lib.hid hko
      clear hcell hx hka hla hko hcc hmc
      go_wp2_with fail
      refine HC.out.mono ?_
      rintro e w1 ⟨lv', rfl, hown1, hb1⟩
      rw [HKO.out] at hown1
      have HO1 : Hid (w1.ownsRow w.heap.size 22 1 lv' (outs (ts.take (i + 1))).length ((outs (ts.take (i + 1))).map rowV)) := Lib.hid (by
        rw [outs_snoc ts i hlt, List.length_append, List.map_append]
        simpa using hown1)
      have HB1 := Lib.hid (hB.out.trans hb1)
      clear hown1 hb1
      go_wp2_with fail
      go_roundw
      case rel => exact ⟨i + 1, by omega, by go_num, HO1, HB1⟩
      case measure => simp [intOf]; omega
    · obtain rfl : i = ts.length := by omega
      rw [List.take_length] at how
      obtain ⟨rs, hrs⟩ : ∃ rs, rs = outs ts := ⟨_, rfl⟩
      have HCX : Hid (TkCtx P1 wr base B rows rs lv nv kv z kn ks) := Lib.hid ⟨HBK.out.keep (fun g hg => hB.out.block g (HBK.out.lt g hg).2), by rw [hrs]; exact HND.out, fun r hr => by
        rw [hrs] at hr
        refine ⟨(HRB.out r hr).1, (HRB.out r hr).2, ?_⟩
        unfold outs at hr
        obtain ⟨t, ht, hr'⟩ := List.mem_flatMap.1 hr
        obtain ⟨_, _, _, _, _, _, _, _, _, _, _, _, _, _, _, h7⟩ := HTS.out t ht
        obtain ⟨_, hc, _⟩ := h7 r hr'
        exact (h7 r hr').keep (hB.out.block r.1 hc.lt)⟩
      have HLT : Hid (∀ r ∈ rs, r.1 < w.heap.size) := Lib.hid (fun r hr => by
        rw [hrs] at hr
        unfold outs at hr
        obtain ⟨t, ht, hr'⟩ := List.mem_flatMap.1 hr
        obtain ⟨_, _, _, _, _, _, _, _, _, _, _, _, _, _, _, h7⟩ := HTS.out t ht
        obtain ⟨_, hc, _⟩ := h7 r hr'
        exact hc.lt)
      have HL3 : Hid (∀ r ∈ rs, r.2.1 ≤ 3) := Lib.hid (fun r hr => by
        rw [hrs] at hr
        unfold outs at hr
        obtain ⟨t, ht, hr'⟩ := List.mem_flatMap.1 hr
        obtain ⟨_, _, _, _, m, lc, _, _, _, _, hm, _, _, _, hko, _⟩ := HTS.out t ht
        have : rowV r ∈ t.rs.map rowV := List.mem_map.2 ⟨r, hr', rfl⟩
        rw [← hko] at this
        unfold kidsOf at this
        split at this
        · simp [rowV] at this
          omega
        · simp at this)
      have HOL2 : Hid (rs.length + rows.length ≤ 4) := by rw [hrs]; exact HOL
      rw [← hrs] at how
      have HRS := Lib.hid hrs
      clear hrs
      obtain ⟨lla, llc, hls⟩ := own_slice how.out
      subst hls
      have hLL : ∃ LB, 0 < rs.length → lla = some ⟨LB, 0, none⟩ ∧ w.heap.size ≤ LB ∧ LB < wr.heap.size ∧ ∀ (i : Nat) (r : Rw), rs[i]? = some r → wr.cell? ⟨LB, i, none⟩ = some (rowV r) := by
        rcases how.out.2 with ⟨e, h0⟩ | ⟨LB, cap2, cur2, e, hLB, hg, _⟩
        · exact ⟨0, fun h => by omega⟩
        · simp only [Value.slice.injEq, true_and] at e
          refine ⟨LB, fun _ => ⟨e.1, hLB, (Array.getElem?_eq_some_iff.1 hg).1, fun i r hr => ?_⟩⟩
          have := how.out.cells (g := LB) (by rw [e.1]; rfl) i (rowV r) (by rw [List.getElem?_map, hr]; rfl)
          rwa [addr_add0] at this
      obtain ⟨LB, hLL⟩ := hLL
      have HLB := Lib.hid hLL
      have HBw := Lib.hid hB.out
      clear how hB hLL
      have hrl : rs.length ≤ 4 := by have := HOL2.out; omega
      obtain ⟨W1, hW1⟩ : ∃ W1 : World, W1 = wr := ⟨_, rfl⟩
      subst hW1
      go_wp2_with fail
      go_loopw [6] (fun iv wx => ∃ (i : Nat) (lvi nvi : Value) (zi : Int), i ≤ rs.length ∧ iv = .int .i64 i ∧ Hid (TkRel P1 W1 base B rows rs lv nv kv kn ks i lvi nvi zi wx) ∧ Hid (zi ≤ 7001300 * ((rows.length + i : Nat) : Int)))
        (fun iv _ => rs.length - (intOf iv).toNat)
      case atStart => exact ⟨0, lv, nv, z, by omega, rfl, Lib.hid HCX.out.start, Lib.hid (by simpa using HZ.out)⟩
      case round =>
        obtain ⟨i, lvi, nvi, zi, hi, rfl, HT, HZI⟩ := hrel
        by_cases hlt : i < rs.length
        · obtain ⟨c0, hcr, hnc, hcm, hn7⟩ := HT.out.ra rs[i] (by rw [List.drop_eq_getElem_cons hlt]; exact List.mem_cons_self)
          obtain ⟨rfl, hLB1, hLB2, hLB3⟩ := HLB.out (by omega)
          have hLBB : LB ≠ B := by have := (HBK.out.lt B (mem_bkB.2 (.inl rfl))).2; omega
          have hLBl : lv.ownBlock ≠ some LB := fun e => by have := (HBK.out.lt LB (mem_bkB.2 (.inr (.inl e)))).2; omega
          have hLBn : nv.ownBlock ≠ some LB := fun e => by have := (HBK.out.lt LB (mem_bkB.2 (.inr (.inr (.inl e))))).2; omega
          have hLBk : wr.heap[LB]? = W1.heap[LB]? := HT.out.other hLB2 hLBB hLBl hLBn (fun r hr e => by have := HLT.out r hr; omega)
          have hLBo := HT.out.otherne hLB2 hLBl hLBn
          have x0 : wr.cell? ⟨LB, i, none⟩ = some (rowV rs[i]) := (cellOf_heap hLBk).trans (hLB3 i _ (List.getElem?_eq_getElem hlt))
          have HF : Hid (LB < wr.heap.size ∧ LB ≠ B ∧ lvi.ownBlock ≠ some LB ∧ nvi.ownBlock ≠ some LB) := Lib.hid ⟨World.block_lt_of_cell? _ _ x0, hLBB, hLBo.1, hLBo.2⟩
          have HX0 := Lib.hid x0
          obtain ⟨b2, f2⟩ := heapcell HT.out.bk.c 2
          have hzi0 := HT.out.bk.z0
          have HROW := Lib.hid (And.intro hcr (And.intro hnc (And.intro hcm hn7)))
          have hcapI : ((rs[i].2.2 : Nat) : Int) ≤ 9223372036854775807 := by unfold maxLen at hcm; omega
          have hlenI : ((rs[i].2.1 : Nat) : Int) ≤ 70000 := by omega
          have hzb := HZI.out
          have hrb : rows.length + i + 1 ≤ 4 := by have := HOL2.out; omega
          have hl3 := HL3.out rs[i] (List.getElem_mem hlt)
          obtain ⟨rm, hrm⟩ : ∃ rm : Int, rm = min ((rs[i].2.2 : Nat) : Int) (((rs[i].2.1 : Nat) : Int) + 70000) := ⟨_, rfl⟩
          have hrm1 : 0 ≤ rm ∧ rm ≤ 70003 := by omega
          have HRM : ∀ W, Hid (Calls Tryz.prog 36 #[.int .i64 (rs[i].2.1 : Nat), .int .i64 (rs[i].2.2 : Nat)] W fun e w' => e = .returned (.int .i64 rm) ∧ w' = W) := fun W => Lib.hid (by rw [hrm]; exact room_any W _ _ (by omega))
          have hwA : IntKind.i64.wrap (10 + rm) = 10 + rm := by exact IntWalk.i64_in _ (by omega)
          have hwB : IntKind.i64.wrap (100 * (10 + rm)) = 100 * (10 + rm) := by exact IntWalk.i64_in _ (by omega)
          obtain ⟨z2, hz2⟩ : ∃ z2 : Int, z2 = zi + 100 * (10 + rm) := ⟨_, rfl⟩
          have hwC : IntKind.i64.wrap (zi + 100 * (10 + rm)) = z2 := by rw [hz2]; exact IntWalk.i64_in _ (by omega)
          have HZ2 : Hid (0 ≤ z2 ∧ z2 ≤ 7001300 * ((rows.length + (i + 1) : Nat) : Int)) := Lib.hid (by omega)
          have hz2b : z2 ≤ 28005200 := by omega
          unfold rowV at x0
          have hltI : (i : Int) < (rs.length : Int) := by omega
          generalize hgg : rs[i].1 = g at x0
          generalize hnnn : rs[i].2.1 = n at x0 HRM
          generalize hcc : rs[i].2.2 = cp at x0 HRM
          have HEQ := Lib.hid (And.intro hgg (And.intro hnnn hcc))
          clear hcr hnc hcm hn7 hcapI hlenI hgg hnnn hcc hLBB hLBl hLBn hLBk hLBo hLB1 hLB2 hLB3 hrm hz2 hrb hzb hl3
          go_upto_region 8 with fail
          go_cut [] from 26 to 46 (fun wx => Hid (BK P1 base wx B (rows ++ rs.take i) lvi nvi kv z2 kn ks ∧ KBs [B] wr wx))
          case first =>
            go_still_tail 19, (by kernel_rfl)
            still_call (HRM _).out
            repeat still_step
            refine wpStill_nil ?_
            change wpList _ _ _ _ _ (World.drew _)
            have h8 : BK P1 base ((World.drew wr).setCell ⟨B, 2, none⟩ (.int .i64 z2)) B (rows ++ rs.take i) lvi nvi kv z2 kn ks :=
              HT.out.bk.setz (heap_setA (show (World.drew wr).heap[B]? = _ from HT.out.bk.c) _) (fun g hg _ => heap_set_ne _ hg) HZ2.out.1
            have hk8 : KBs [B] wr ((World.drew wr).setCell ⟨B, 2, none⟩ (.int .i64 z2)) := (KBs.of_below (bs := [B]) (drew_below wr)).trans (KBs.set B 2 _) (fun _ h => .inl h)
            have H8 := Lib.hid (And.intro h8 hk8)
            clear h8 hk8
            have f2' : (World.drew wr).frozen? ⟨B, 2, none⟩ = false := f2
            go_wp2_with fail
            go_meet
            exact H8
          case rest =>
            have H8 := hcut
            clear b2 f2 hwA hwB hwC x0 HRM
            generalize hW8 : wc = W8 at H8 ⊢
            clear hW8
            obtain ⟨b2, f2⟩ := heapcell H8.out.1.c 2
            have hBlt : B < W8.heap.size := (H8.out.1.lt B (mem_bkB.2 (.inl rfl))).2
            have y0 : W8.cell? ⟨LB, i, none⟩ = some (.slice (some ⟨g, 0, none⟩) n cp) := by
              rw [cellOf_heap (H8.out.2.block LB HF.out.1 (by simpa using HF.out.2.1)), HX0.out]
              unfold rowV; rw [HEQ.out.1, HEQ.out.2.1, HEQ.out.2.2]
            have HY8 := Lib.hid y0
            go_upto_region 10 with fail
            clear b2 f2
            obtain ⟨c0, fc0⟩ := heapcell H8.out.1.c 0
            have hNb : (rows ++ rs.take i).length ≤ 4 := by
              have := HOL2.out
              rw [List.length_append, List.length_take]; omega
            obtain ⟨N, hNN⟩ : ∃ N, N = (rows ++ rs.take i).length := ⟨_, rfl⟩
            have HNN := Lib.hid hNN
            rw [← hNN] at hNb
            clear hNN
            have HO8 : Hid ((W8.drew).ownsRow base 22 1 lvi N ((rows ++ rs.take i).map rowV)) := Lib.hid (by rw [HNN.out]; exact ownsRow_keep H8.out.1.l (fun _ _ => rfl))
            have HN1 : Hid (∀ u ∈ [Value.slice (some ⟨g, 0, none⟩) n cp], u.oneCell' = true) := Lib.hid (fun u hu => by simp at hu; subst hu; rfl)
            have HN2 : Hid (N + 1 ≤ maxLen) := Lib.hid (by unfold maxLen; omega)
            have HN3 : Hid ((N + 1) * 24 ≤ 140737488355328) := Lib.hid (by omega)
            have HN4 : Hid (∀ o, base ≤ ((W8.drew).alloc o).heap.size) := Lib.hid (fun o => by
              have := H8.out.1.hb
              rw [size_da]; omega)
            have HN5 : Hid (∀ o, B < ((W8.drew).alloc o).heap.size) := Lib.hid (fun o => by
              rw [size_da]; omega)
            have HN6 : Hid (∀ o, ((W8.drew).alloc o).heap[B]? = some (.cells #[lvi, nvi, .int .i64 z2, kv] 39 (0, 0))) := Lib.hid (fun o => (Below.heap_alloc W8.drew _ _ hBlt).trans H8.out.1.c)
            have HN7 : Hid (some B ≠ lvi.ownBlock) := Lib.hid (fun e => ((nd4 _ _ _ _ _).1 H8.out.1.nd).1 B e.symm |>.1 rfl)
            have c0a : (W8.alloc (.cells #[Value.slice (some ⟨g, 0, none⟩) n cp] 22)).cell? ⟨B, 0, none⟩ = some lvi := (heapcell ((Below.heap_alloc W8 _ _ hBlt).trans H8.out.1.c) 0).1
            have HBlt := Lib.hid hBlt
            have HNb := Lib.hid hNb
            clear hNb hBlt
            go_cut [] from 52 to 64 (fun wx => ∃ lv2, Hid (BKc P1 wx B lv2 nvi z2 kv ∧ wx.ownsRow base 22 1 lv2 (N + 1) ((rows ++ rs.take i).map rowV ++ [rowV rs[i]]) ∧ KBs (B :: lvi.ownBlock.toList) W8 wx ∧ ∀ g, lv2.ownBlock = some g → lvi.ownBlock = some g ∨ W8.heap.size ≤ g))
            case first =>
              go_region_law ((refine step_append_lies _ (by rfl) _ _ _ (by rfl) base 22 i22 (.slice none 0 0) 1 24 Tryz.underlying37 HQ.out.1 HQ.out.2.1 HQ.out.2.2.1 HQ.out.2.2.2 (by rfl) (by decide) _ _ _ (by rfl) (HO8.out.alloc _) ⟨W8.heap.size, 0, none⟩ 1 1 [.slice (some ⟨g, 0, none⟩) n cp] (by rfl) (by rfl) (one_new _ _ _) HN1.out (by decide) HN2.out HN3.out (HN4.out _) _ rfl ?_; intro g2 cap2 w1 hown1 hgrow1 hat1 hlt1; have hq := (hgrow1.block B (HN5.out _) HN7.out).trans (HN6.out _); obtain ⟨p0, f0⟩ := heapcell hq 0))
              all_goals
                have HAD := Lib.hid (app_done hq hown1 hgrow1 hat1 HN7.out HBlt.out 0 (.slice (some ⟨g2, 0, none⟩) (N + 1) cap2))
                clear hq hown1 hgrow1 hat1
                go_wp2_with fail
                go_meet
                refine ⟨_, Lib.hid ⟨HAD.out.1, ?_, HAD.out.2.2.1, HAD.out.2.2.2⟩⟩
                have := HAD.out.2.1
                unfold rowV; rw [HEQ.out.1, HEQ.out.2.1, HEQ.out.2.2]; exact this
            case rest =>
              obtain ⟨lv2, H10⟩ := hcut
              clear HO8 HN1 HN2 HN3 HN4 HN5 HN6 c0a c0 fc0 y0
              generalize hW10 : wc = W10 at H10 ⊢
              clear hW10
              have hBlt : B < W10.heap.size := by have := H10.out.2.2.1.size; have := HBlt.out; omega
              have hNb := HNb.out
              have y0 : W10.cell? ⟨LB, i, none⟩ = some (.slice (some ⟨g, 0, none⟩) n cp) := by
                rw [cellOf_heap (H10.out.2.2.1.block LB (by have := H8.out.2.size; have := HF.out.1; omega) (by have := HF.out; simp [this.2.1]; exact this.2.2.1))]
                exact HY8.out
              have HY10 := Lib.hid y0
              obtain ⟨c1, fc1⟩ := heapcell H10.out.1 1
              have hnn := (nd4 _ _ _ _ _).1 H8.out.1.nd
              have HO8 : Hid ((W10.drew).ownsRow base 3 1 nvi N ((rows ++ rs.take i).map fun r => Value.int .i64 (r.2.1 : Nat))) := Lib.hid (by
                rw [HNN.out]
                exact ownsRow_keep H8.out.1.n (fun b hb => H10.out.2.2.1.block b ((H8.out.1.n.lt b hb).2) (by simp [(hnn.2.1 b hb).1]; exact fun e => (hnn.1 b e).2.1 hb)))
              have HN1 : Hid (∀ u ∈ [Value.int .i64 (n : Int)], u.oneCell' = true) := Lib.hid (fun u hu => by simp at hu; subst hu; rfl)
              have HN2 : Hid (N + 1 ≤ maxLen) := Lib.hid (by unfold maxLen; omega)
              have HN3 : Hid ((N + 1) * 8 ≤ 140737488355328) := Lib.hid (by omega)
              have HN4 : Hid (∀ o, base ≤ ((W10.drew).alloc o).heap.size) := Lib.hid (fun o => by
                have := H8.out.1.hb
                rw [size_da]; omega)
              have HN5 : Hid (∀ o, B < ((W10.drew).alloc o).heap.size) := Lib.hid (fun o => by
                rw [size_da]; omega)
              have HN6 : Hid (∀ o, ((W10.drew).alloc o).heap[B]? = some (.cells #[lv2, nvi, .int .i64 z2, kv] 39 (0, 0))) := Lib.hid (fun o => (Below.heap_alloc W10.drew _ _ hBlt).trans H10.out.1)
              have HN8 : Hid (some B ≠ nvi.ownBlock) := Lib.hid (fun e => (hnn.2.1 B e.symm).1 rfl)
              have c1a : (W10.alloc (.cells #[Value.int .i64 (n : Int)] 3)).cell? ⟨B, 1, none⟩ = some nvi := (heapcell ((Below.heap_alloc W10 _ _ hBlt).trans H10.out.1) 1).1
              have HBlt2 := Lib.hid hBlt
              clear hNb hBlt hnn HN7
              go_upto_region 11 with fail
              go_cut [] from 65 to 78 (fun wx => ∃ nv2, Hid (BKc P1 wx B lv2 nv2 z2 kv ∧ wx.ownsRow base 3 1 nv2 (N + 1) (((rows ++ rs.take i).map fun r => Value.int .i64 (r.2.1 : Nat)) ++ [.int .i64 (rs[i].2.1 : Nat)]) ∧ KBs (B :: nvi.ownBlock.toList) W10 wx ∧ ∀ g, nv2.ownBlock = some g → nvi.ownBlock = some g ∨ W10.heap.size ≤ g))
              case first =>
                go_region_law ((refine step_append_lies _ (by rfl) _ _ _ (by rfl) base 3 i3 (.int .i64 0) 1 8 Tryz.underlying25 HP3.out.1 HP3.out.2.1 HP3.out.2.2.1 HP3.out.2.2.2 (by rfl) (by decide) _ _ _ (by rfl) (HO8.out.alloc _) ⟨W10.heap.size, 0, none⟩ 1 1 [.int .i64 (n : Int)] (by rfl) (by rfl) (one_new _ _ _) HN1.out (by decide) HN2.out HN3.out (HN4.out _) _ rfl ?_; intro g2 cap2 w1 hown1 hgrow1 hat1 hlt1; have hq := (hgrow1.block B (HN5.out _) HN8.out).trans (HN6.out _); obtain ⟨p1, f1⟩ := heapcell hq 1))
                all_goals
                  have HAD := Lib.hid (app_done hq hown1 hgrow1 hat1 HN8.out HBlt2.out 1 (.slice (some ⟨g2, 0, none⟩) (N + 1) cap2))
                  clear hq hown1 hgrow1 hat1
                  go_wp2_with fail
                  go_meet
                  refine ⟨_, Lib.hid ⟨HAD.out.1, ?_, HAD.out.2.2.1, HAD.out.2.2.2⟩⟩
                  have := HAD.out.2.1
                  rw [HEQ.out.2.1]; exact this
              case rest =>
                obtain ⟨nv2, H11⟩ := hcut
                clear HO8 HN1 HN2 HN3 HN4 HN5 HN6 HN8 c1a c1 fc1 y0
                generalize hW11 : wc = W11 at H11 ⊢
                clear hW11
                obtain ⟨la2, lc2, hls⟩ := own_slice H10.out.2.1
                subst hls
                obtain ⟨M, hM⟩ : ∃ M : Nat, M = N + 1 := ⟨_, rfl⟩
                have hMb : (M : Int) ≤ 5 := by have := HNb.out; omega
                have hM0 : (0 : Int) ≤ (M : Int) := by omega
                have hwm : IntKind.i64.wrap (-(M : Int)) = -(M : Int) := by exact IntWalk.i64_in _ (by omega)
                have HM := Lib.hid hM
                have h11 := H11.out.1
                rw [← hM] at h11
                have H11c := Lib.hid h11
                have hfr := HT.out.farR HCX.out (List.getElem_mem hlt)
                rw [HEQ.out.1] at hfr
                have HFR := Lib.hid hfr
                obtain ⟨c0, hcr, hln⟩ := (show ∃ c0, RowC wr g 24 (cp * 4) c0 ∧ n ≤ cp ∧ cp ≤ maxLen ∧ n ≤ 70000 from ⟨_, by have := HROW.out.1; rw [HEQ.out.1, HEQ.out.2.2] at this; exact this, by have := HROW.out.2; rw [HEQ.out.2.1, HEQ.out.2.2] at this; exact this⟩)
                have s8 := H8.out.2.size
                have s10 := H10.out.2.2.1.size
                have hcr11 : RowC W11 g 24 (cp * 4) c0 := hcr.keep (by
                  have sg := hcr.lt
                  rw [H11.out.2.2.1.block g (by omega) (by simp [hfr.2.1]; exact hfr.2.2.2.1), H10.out.2.2.1.block g (by omega) (by simp [hfr.2.1]; exact hfr.2.2.1), H8.out.2.block g sg (by simpa using hfr.2.1)])
                have hLBg : LB ≠ g := fun e => by
                  have h1 := (HLB.out (by omega)).2.1
                  have := HLT.out rs[i] (List.getElem_mem hlt)
                  rw [HEQ.out.1] at this
                  omega
                have HLBg := Lib.hid hLBg
                have y0 : W11.cell? ⟨LB, i, none⟩ = some (.slice (some ⟨g, 0, none⟩) n cp) := by
                  have hf := HF.out
                  rw [cellOf_heap (H11.out.2.2.1.block LB (by omega) (by simp [hf.2.1]; exact hf.2.2.2))]
                  exact HY10.out
                have HY0 := Lib.hid y0
                have HLN := Lib.hid hln
                have HS11 : Hid (LB < W11.heap.size ∧ B < W11.heap.size) := Lib.hid ⟨World.block_lt_of_cell? _ _ y0, (Array.getElem?_eq_some_iff.1 h11).1⟩
                have HGB : Hid (g ≠ B) := Lib.hid hfr.2.1
                have HC11 := Lib.hid hcr11
                have hncI : (n : Int) ≤ (cp : Int) := by have := hln.1; omega
                have hn7I : (n : Int) ≤ 70000 := by have := hln.2.2; omega
                clear hM h11 hfr hcr hln hcr11 y0 hLBg s8 s10
                go_wp2_with fail
                go_loopw [7] (fun kv' wx => ∃ (k : Nat) (c2 : Nat → Value), k ≤ n ∧ kv' = .int .i64 k ∧ Hid (KBs [g] W11 wx ∧ RowC wx g 24 (cp * 4) c2 ∧ ∀ j, j < k → ∀ q, q < 4 → c2 (j * 4 + q) = P1.mark N q))
                  (fun kv' _ => n - (intOf kv').toNat)
                case atStart => exact ⟨0, c0, by omega, rfl, Lib.hid ⟨KBs.refl _ _, HC11.out, fun j h => by omega⟩⟩
                case round =>
                  obtain ⟨k, c2, hk, rfl, HMK⟩ := hrel
                  have hy : wr.cell? ⟨LB, i, none⟩ = some (.slice (some ⟨g, 0, none⟩) n cp) := by
                    rw [cellOf_heap (HMK.out.1.block LB HS11.out.1 (by simpa using HLBg.out))]; exact HY0.out
                  by_cases hkn : k < n
                  · have hb0 : wr.cell? ⟨B, 0, none⟩ = some (.slice la2 M lc2) := by
                      rw [cellOf_heap (HMK.out.1.block B HS11.out.2 (by simpa using HGB.out.symm)), (heapcell H11c.out 0).1, HM.out]; rfl
                    have hkc : k * 4 + 4 ≤ cp * 4 := by have := HLN.out.1; omega
                    obtain ⟨g0, e0⟩ := HMK.out.2.1.cell (p := k * 4) (by omega)
                    obtain ⟨g1, e1⟩ := HMK.out.2.1.cell (p := k * 4 + 1) (by omega)
                    obtain ⟨g2, e2⟩ := HMK.out.2.1.cell (p := k * 4 + 2) (by omega)
                    obtain ⟨g3, e3⟩ := HMK.out.2.1.cell (p := k * 4 + 3) (by omega)
                    have hknI : (k : Int) < (n : Int) := by omega
                    generalize c2 (k * 4) = v0 at g0
                    generalize c2 (k * 4 + 1) = v1 at g1
                    generalize c2 (k * 4 + 2) = v2 at g2
                    generalize c2 (k * 4 + 3) = v3 at g3
                    clear hkc
                    go_wp2_with fail
                    go_still_tail 12, (by kernel_rfl)
                    go_wp2_with fail
                    go_roundw
                    case rel =>
                      refine ⟨k + 1, _, by omega, by go_num, Lib.hid ⟨?_, RowC.keep (row_four HMK.out.2.1 k (.string ⟨#[]⟩) (.int .i64 (-(M : Int))) (.string ⟨#[]⟩) (.slice none 0 0)) rfl, fun j hj q hq => ?_⟩⟩
                      · exact (HMK.out.1.trans (kbs_four (g := g)) (fun _ h => .inl h)).drew
                      · have d1 : (j * 4 + q) / 4 = j := by omega
                        have d2 : (j * 4 + q) % 4 = q := by omega
                        simp only [d1, d2]
                        split
                        · show _ = four _ _ _ _ _
                          rw [show -(M : Int) = -1 - (N : Int) from by have := HM.out; omega]
                        · exact HMK.out.2.2 j (by omega) q hq
                    case measure => simp [intOf]; omega
                  · obtain rfl : k = n := by omega
                    have hknI : ¬ ((k : Int) < (k : Int)) := by omega
                    go_wp2_with fail
                    go_roundw
                    case rel =>
                      refine ⟨i + 1, .slice la2 (N + 1) lc2, nv2, z2, by omega, by go_num, Lib.hid (take_step HT.out HCX.out hlt H8.out.1 H8.out.2 ?_ H10.out.2.2.1 H10.out.2.2.2 H11.out.1 ?_ H11.out.2.2.1 H11.out.2.2.2 ?_ ?_), Lib.hid HZ2.out.2⟩
                      · rw [← HNN.out]; exact H10.out.2.1
                      · rw [← HNN.out]; exact H11.out.2.1
                      · rw [HEQ.out.1]; exact HMK.out.1
                      · rw [← HNN.out]
                        refine ⟨c2, by rw [HEQ.out.1, HEQ.out.2.2]; exact HMK.out.2.1, by rw [HEQ.out.2.1, HEQ.out.2.2]; exact HLN.out, fun j hj => ?_⟩
                        rw [HEQ.out.2.1] at hj
                        exact HMK.out.2.2 j hj
                    case measure => simp [intOf]; omega
        · obtain rfl : i = rs.length := by omega
          have hltI : ¬ ((rs.length : Int) < (rs.length : Int)) := by omega
          go_wp2_with fail
          go_end0
          have hb := HT.out.bk
          rw [List.take_length] at hb
          refine ⟨rfl, lvi, nvi, zi, ?_⟩
          rw [← HRS.out]
          exact ⟨hb, by rw [List.length_append]; exact HZI.out, (KBs.of_below HBw.out).trans HT.out.kb (fun g hg => .inl hg), fun g e => (HT.out.nl g e).imp id (fun h => Nat.le_trans HBw.out.size h), fun g e => (HT.out.nn g e).imp id (fun h => Nat.le_trans HBw.out.size h)⟩
end

section
open Go.RowKit
set_option maxRecDepth 100000
theorem BK.setk {P : BP} {base B : Nat} {w w' : World} {rows : List Rw} {lv nv kv kv' : Value} {z : Int} {kn kn' : Nat} {ks ks' : List Value} (h : BK P base w B rows lv nv kv z kn ks) (hc : BKc P w' B lv nv z kv') (hk : w'.ownsRow base P.kt P.ks kv' kn' ks') (hkb : KBs (B :: kv.ownBlock.toList) w w')
    (hn : ∀ g, kv'.ownBlock = some g → kv.ownBlock = some g ∨ w.heap.size ≤ g) : BK P base w' B rows lv nv kv' z kn' ks' := by
  have hd := (nd4 _ _ _ _ _).1 h.nd
  have hlt := h.lt
  have st : ∀ g, g < w.heap.size → g ≠ B → kv.ownBlock ≠ some g → w'.heap[g]? = w.heap[g]? := fun g hg h1 h2 => hkb.block g hg (by simp [h1, h2])
  refine ⟨hc, ownsRow_keep h.l (fun g e => st g (hlt g (mem_bkB.2 (.inr (.inl e)))).2 (hd.1 g e).1 (hd.1 g e).2.2.1), ownsRow_keep h.n (fun g e => st g (hlt g (mem_bkB.2 (.inr (.inr (.inl e))))).2 (hd.2.1 g e).1 (hd.2.1 g e).2.1), hk,
    h.m.keep (fun r hr => st r.1 (hlt r.1 (mem_bkB.2 (.inr (.inr (.inr (.inr ⟨r, hr, rfl⟩)))))).2 (fun e => hd.2.2.2.1 (e ▸ List.mem_map.2 ⟨r, hr, rfl⟩)) (fun e => (hd.2.2.1 _ e).2 (List.mem_map.2 ⟨r, hr, rfl⟩))), h.z0, ?_, h.hb, h.rb⟩
  refine (nd4 _ _ _ _ _).2 ⟨fun x hx => ⟨(hd.1 x hx).1, (hd.1 x hx).2.1, fun e => ?_, (hd.1 x hx).2.2.2⟩, fun x hx => ⟨(hd.2.1 x hx).1, fun e => ?_, (hd.2.1 x hx).2.2⟩, fun x hx => ?_, hd.2.2.2.1, hd.2.2.2.2⟩
  · rcases hn x e with h1 | h1
    · exact (hd.1 x hx).2.2.1 h1
    · have := (hlt x (mem_bkB.2 (.inr (.inl hx)))).2; omega
  · rcases hn x e with h1 | h1
    · exact (hd.2.1 x hx).2.1 h1
    · have := (hlt x (mem_bkB.2 (.inr (.inr (.inl hx))))).2; omega
  · rcases hn x hx with h1 | h1
    · exact hd.2.2.1 x h1
    · refine ⟨fun e => ?_, fun e => ?_⟩
      · have := (hlt B (mem_bkB.2 (.inl rfl))).2; omega
      · obtain ⟨r, hr, rfl⟩ := List.mem_map.1 e
        have := (hlt r.1 (mem_bkB.2 (.inr (.inr (.inr (.inr ⟨r, hr, rfl⟩)))))).2; omega
/-- A book whose kept things have grown. -/
structure KeepE (P : BP) (base B : Nat) (rows : List Rw) (lv nv kv : Value) (z : Int) (kn : Nat) (ks : List Value) (w w' : World) (kv' : Value) : Prop where
  bk : BK P base w' B rows lv nv kv' z kn ks
  kb : KBs (B :: kv.ownBlock.toList) w w'
  nk : ∀ g, kv'.ownBlock = some g → kv.ownBlock = some g ∨ w.heap.size ≤ g
set_option maxHeartbeats 4000000 in
theorem keep_tree (w : World) (base B A c : Nat) (rows : List Rw) (lv nv kv : Value) (z : Int) (kn : Nat) (ks : List Value) (x : List Value) (hbk : BK P1 base w B rows lv nv kv z kn ks) (hx : x.length = 4) (h1 : ∀ u ∈ x, u.oneCell' = true)
    (hc : ∀ q v, x[q]? = some v → w.cell? ⟨A, q, none⟩ = some v) (hkn : kn ≤ 100) :
    Calls Tryz.prog 16 #[.pointer (some ⟨B, 0, none⟩), .slice (some ⟨A, 0, none⟩) 1 c] w fun e w' => e = .returned (.tuple #[]) ∧ ∃ kv', KeepE P1 base B rows lv nv kv z (kn + 1) (ks ++ x) w w' kv' := by
  obtain ⟨i24, hi24, hy0, hy1, hy2⟩ := info_parts info24
  have HI := Lib.hid (And.intro hi24 (And.intro hy0 (And.intro hy1 hy2)))
  clear hi24 hy0 hy1 hy2
  obtain ⟨c3, _⟩ := heapcell hbk.c 3
  have hnn := (nd4 _ _ _ _ _).1 hbk.nd
  have HB := Lib.hid hbk
  have HC : Hid (∀ j v, x[j]? = some v → w.cell? ((⟨A, 0, none⟩ : Addr).add j) = some v) := Lib.hid (fun j v hv => by rw [addr_add0]; exact hc j v hv)
  have H1 := Lib.hid h1
  have HXL := Lib.hid (show x.length = 1 * 4 by omega)
  have HNE : Hid (kv.ownBlock ≠ some B) := Lib.hid (fun e => (hnn.2.2.1 B e).1 rfl)
  have HBB : Hid (base ≤ w.heap.size) := Lib.hid (Nat.le_trans hbk.hb (Nat.le_of_lt (hbk.lt B (mem_bkB.2 (.inl rfl))).2))
  clear hbk hc h1 hnn hx
  go_enter Tryz.func16, Tryz.ntmps16
  go_wp2_with (at_builtin; refine wpList_append_own_at _ rfl _ _ 22 rfl base 24 i24 (.agg #[.string ⟨#[]⟩, .int .i64 0, .string ⟨#[]⟩, .slice none 0 0]) 4 64 Tryz.underlying22 HI.out.1 HI.out.2.1 HI.out.2.2.1 HI.out.2.2.2 rfl (by decide) _ _ _ rfl HB.out.k ⟨A, 0, none⟩ 1 c x rfl HXL.out HC.out H1.out ?c3 ?c4 HBB.out ?_)
  case c3 => unfold maxLen; omega
  case c4 => omega
  intro kv' w2 hown hgrow _ hblk
  have hlt : B < w.heap.size := (Array.getElem?_eq_some_iff.1 HB.out.c).1
  have hB2 : BKc P1 w2 B lv nv z kv := (hgrow.block B hlt (fun e => HNE.out e.symm)).trans HB.out.c
  obtain ⟨la, lc, hks⟩ := own_slice hown
  subst hks
  obtain ⟨q3, f3⟩ := heapcell hB2 3
  have HB2 := Lib.hid hB2
  have HO := Lib.hid hown
  have HG := Lib.hid hgrow
  have HBL := Lib.hid hblk
  clear hB2 hown hgrow hblk c3
  go_wp2_with fail
  go_end0
  have hg := HG.out
  have hn : ∀ g, (Value.slice la (kn + 1) lc).ownBlock = some g → kv.ownBlock = some g ∨ w.heap.size ≤ g := fun g e => by
    rcases HBL.out with h1 | h1
    · exact .inl (h1.symm.trans e)
    · rw [h1] at e; simp at e; right; omega
  have hkb : KBs (B :: kv.ownBlock.toList) w (w2.setCell ⟨B, 3, none⟩ (.slice la (kn + 1) lc)) := ⟨hg.os, hg.tape, hg.output, by have := hg.size; simpa [World.setCell] using this, fun g hgl hgn => by
    have h2 : g ≠ B := fun e => hgn (by simp [e])
    rw [heap_set_ne _ h2]
    exact hg.block g hgl (fun e => hgn (by simp [← e]))⟩
  refine ⟨rfl, .slice la (kn + 1) lc, HB.out.setk (heap_setA HB2.out _) (ownsRow_keep HO.out (fun g e => heap_set_ne _ (fun e2 => ?_))) hkb hn, hkb, hn⟩
  subst e2
  rcases hn _ e with h1 | h1
  · exact HNE.out h1
  · omega
theorem wpList_append_four {P : Program} {ops : Array Oper} {rest : List Oper} {o : Oper} {a : Act} {w : World} {Q : Exit → Act → World → Prop}
    (hg : o.guard = none) (s x : Operand) (t : TypeId) (hop : o.op = Op.call { callee := Callee.builtin Builtin.append, args := #[s, x], argTypes := #[t, t] })
    (e : TypeId) (i : TypeInfo) (h1 : P.underlying t = some (.slice e)) (h2 : P.info? e = some i) (h4 : i.size = 4)
    (b n cap : Nat) (hs : a.eval s = .slice (some ⟨b, 0, none⟩) n cap)
    (ad : Addr) (c : Nat) (x0 x1 x2 x3 : Value) (hx : a.eval x = .slice (some ad) 1 c) (hc : ∀ j u, [x0, x1, x2, x3][j]? = some u → w.cell? (ad.add j) = some u) (h1c : ∀ u ∈ [x0, x1, x2, x3], u.oneCell' = true)
    (hroom : n + 1 ≤ cap) (hsp : ∀ q, q < 4 → (w.cell? ⟨b, n * 4 + q, none⟩).isSome = true ∧ w.frozen? ⟨b, n * 4 + q, none⟩ = false)
    (hK : wpList P ops Q rest (a.put o.dst (.slice (some ⟨b, 0, none⟩) (n + 1) cap)) ((((w.setCell ⟨b, n * 4, none⟩ x0).setCell ⟨b, n * 4 + 1, none⟩ x1).setCell ⟨b, n * 4 + 2, none⟩ x2).setCell ⟨b, n * 4 + 3, none⟩ x3)) :
    wpList P ops Q (o :: rest) a w := by
  refine wpList_plain hg fun K hK' => ?_
  have hrun := run_append_room_cells (P := P) w t o.type e i h1 h2 b 0 n cap ad 1 c [x0, x1, x2, x3] (by simp [h4]) hc h1c hroom (fun j hj => by rw [h4, Nat.zero_add]; exact (hsp j hj).1) (fun j hj => by rw [h4, Nat.zero_add]; exact (hsp j hj).2)
  unfold Oper.wp
  simp [execOp, hop, resolve, invoke, builtin, hs, hx, hrun, Result.andThen]
  refine hK' _ _ ?_
  simpa [World.setCells, h4] using hK
def sp1 (j q : Nat) : Value := four (.string ⟨#[]⟩) (.int .i64 (-1 - (j : Int))) (.string ⟨#[120]⟩) (.slice none 0 0) q
end

section
open Go.RowKit
set_option maxRecDepth 100000
theorem drewN_below (w : World) (n : Nat) : Below w.heap.size w (w.drewN n) := ⟨rfl, rfl, rfl, Nat.le_refl _, fun _ _ => rfl⟩
set_option maxHeartbeats 40000000 in
theorem whole_any (w : World) (base B A kc : Nat) (rows : List Rw) (lv nv : Value) (z : Int) (ts : List Tr)
    (hbk : BK P1 base w B rows lv nv (.slice (some ⟨A, 0, none⟩) ts.length kc) z ts.length (ts.flatMap (·.x))) (hx4 : ∀ t ∈ ts, t.x.length = 4) (hts : ∀ t ∈ ts, TrOk w t) (hlen : ts.length ≤ 10) (hol : (outs ts).length + rows.length ≤ 4)
    (hnd : ((outs ts).map (·.1)).Nodup) (hrb : ∀ r ∈ outs ts, base ≤ r.1 ∧ r.1 ∉ bkB B rows lv nv (.slice (some ⟨A, 0, none⟩) ts.length kc)) (hz : z ≤ 7001300 * (rows.length : Int)) :
    Calls Tryz.prog 19 #[.pointer (some ⟨B, 0, none⟩)] w fun e w' => e = .returned (.bool true) ∧ KBs (bkB B rows lv nv (.slice (some ⟨A, 0, none⟩) ts.length kc) ++ (outs ts).map (·.1)) w w' := by
  obtain ⟨i24, hi24, _, hy1, _⟩ := info_parts info24
  have HI := Lib.hid (And.intro hi24 hy1)
  clear hi24 hy1
  have hav : ∀ i (h : i < ts.length), ∀ q v, ts[i].x[q]? = some v → w.cell? ⟨A, i * 4 + q, none⟩ = some v := fun i h q v hq => by
    have hfl : ∀ (l : List Tr) (i : Nat) (h : i < l.length), (∀ t ∈ l, t.x.length = 4) → ∀ q v, l[i].x[q]? = some v → (l.flatMap (·.x))[i * 4 + q]? = some v := fun l => by
      induction l with
      | nil => intro i h; simp at h
      | cons t r ih =>
        intro i h h4 q v hq
        have ht := h4 t (by simp)
        rw [List.flatMap_cons]
        cases i with
        | zero =>
          have : q < t.x.length := (List.getElem?_eq_some_iff.1 hq).1
          rw [List.getElem?_append_left (by simpa using this)]
          simpa using hq
        | succ i =>
          rw [List.getElem?_append_right (by omega), ht, show (i + 1) * 4 + q - 4 = i * 4 + q by omega]
          exact ih i (by simpa using h) (fun x hx => h4 x (by simp [hx])) q v hq
    have := hbk.k.cells (g := A) rfl (i * 4 + q) v (hfl ts i h hx4 q v hq)
    rwa [addr_add0] at this
  have hT := take_any w base B A kc rows lv nv _ z ts.length _ ts hbk hts hav hlen hol hnd hrb hz
  have hb0 := hbk.c
  obtain ⟨c3, _⟩ := heapcell hb0 3
  have HT := Lib.hid hT
  have HBKL : Hid (∀ g ∈ bkB B rows lv nv (.slice (some ⟨A, 0, none⟩) ts.length kc), base ≤ g ∧ g < w.heap.size) := Lib.hid hbk.lt
  have HRB := Lib.hid hrb
  have HOL := Lib.hid hol
  clear hbk hx4 hts hol hnd hrb hz hav hT hb0
  go_enter Tryz.func19, Tryz.ntmps19
  go_wp2_with fail
  refine HT.out.mono ?_
  rintro e w1 ⟨rfl, lv', nv', z', hE⟩
  have HB1 : Hid (KBs (bkB B rows lv nv (.slice (some ⟨A, 0, none⟩) ts.length kc) ++ (outs ts).map (·.1)) w w1) := Lib.hid (hE.kb.sub (fun g hg => by
    simp only [List.mem_cons, List.mem_append] at hg
    refine .inl (List.mem_append.2 ?_)
    rcases hg with rfl | (h | h) | h
    · exact .inl (mem_bkB.2 (.inl rfl))
    · exact .inl (mem_bkB.2 (.inr (.inl (by simpa using h))))
    · exact .inl (mem_bkB.2 (.inr (.inr (.inl (by simpa using h)))))
    · exact .inr h))
  have HNL := Lib.hid hE.nl
  obtain ⟨R, hR⟩ : ∃ R, R = rows ++ outs ts := ⟨_, rfl⟩
  have hbk1 := hE.bk
  rw [← hR] at hbk1
  have hRl : R.length ≤ 4 := by rw [hR, List.length_append]; have := HOL.out; omega
  obtain ⟨LV, NV, la, na, lc, nc, rfl, rfl, C, hna, hrr, hnc, hgb, hgx⟩ := hbk1.gc
  have HBK1 := Lib.hid hbk1
  have HC := Lib.hid C
  have HNA := Lib.hid hna
  have HRR := Lib.hid hrr
  have HNC := Lib.hid hnc
  have HGB := Lib.hid hgb
  have HGX := Lib.hid (hgx sp1)
  have hbc : ∀ {F : Nat → Nat} {Inv : Nat → Nat → Nat → Value → Prop} {wr : World}, GX 4 24 22 LV R w1 F Inv wr → BKc P1 wr B (.slice la R.length lc) (.slice na R.length nc) z' (.slice (some ⟨A, 0, none⟩) ts.length kc) := fun h =>
    (h.other (HBK1.out.lt B (mem_bkB.2 (.inl rfl))).2 (fun h0 => (HNA.out h0).2.2.2) (fun r hr => (HRR.out r hr).1)).trans HBK1.out.c
  have hnv : ∀ {F : Nat → Nat} {Inv : Nat → Nat → Nat → Value → Prop} {wr : World}, GX 4 24 22 LV R w1 F Inv wr → ∀ (j : Nat) (r : Rw), R[j]? = some r → wr.cell? ⟨NV, j, none⟩ = some (.int .i64 (r.2.1 : Nat)) := fun h j r hj => by
    have h0 : 0 < R.length := by have := (List.getElem?_eq_some_iff.1 hj).1; omega
    exact (cellOf_heap (h.other (HNA.out h0).2.1 (fun h0 => (HNA.out h0).2.2.1) (fun r hr => (HRR.out r hr).2 h0))).trans (HNC.out j r hj)
  have hba : ∀ {F : Nat → Nat} {Inv : Nat → Nat → Nat → Value → Prop} {wr : World}, GX 4 24 22 LV R w1 F Inv wr → KBs (bkB B rows lv nv (.slice (some ⟨A, 0, none⟩) ts.length kc) ++ (outs ts).map (·.1)) w wr := fun h =>
    HB1.out.trans h.k (fun g hg => by
      rcases mem_gwB.1 hg with ⟨h0, rfl⟩ | ⟨r, hr, rfl⟩
      · have := C.la h0
        subst this
        rcases HNL.out g rfl with h1 | h1
        · exact .inl (List.mem_append.2 (.inl (mem_bkB.2 (.inr (.inl h1)))))
        · exact .inr h1
      · rw [hR] at hr
        rcases List.mem_append.1 hr with h1 | h1
        · exact .inl (List.mem_append.2 (.inl (mem_bkB.2 (.inr (.inr (.inr (.inr ⟨r, h1, rfl⟩)))))))
        · exact .inl (List.mem_append.2 (.inr (List.mem_map.2 ⟨r, h1, rfl⟩))))
  have HBC := @hbc
  have HNV : Hid (∀ (F : Nat → Nat) (Inv : Nat → Nat → Nat → Value → Prop) (wr : World), GX 4 24 22 LV R w1 F Inv wr → ∀ (j : Nat) (r : Rw), R[j]? = some r → wr.cell? ⟨NV, j, none⟩ = some (.int .i64 (r.2.1 : Nat))) := Lib.hid (fun F Inv wr h => hnv h)
  have HBA := @hba
  clear hE hR hbk1 C hna hrr hnc hgb hgx c3 HT hbc hnv hba
  go_wp2_with fail
  go_loopw [3] (fun iv wr => ∃ i : Nat, i ≤ R.length ∧ iv = .int .i64 i ∧ Hid (GX 4 24 22 LV R w1 (fA R i (lenR R i)) (InvT R P1.mark sp1) wr))
    (fun iv _ => R.length - (intOf iv).toNat)
  case atStart => exact ⟨0, by omega, rfl, Lib.hid (HGX.out.mono (fun j r hj => fA_start R j) (fun _ _ _ _ _ _ _ h => h))⟩
  case round =>
    obtain ⟨i, hi, rfl, HW⟩ := hrel
    obtain ⟨b0, _⟩ := heapcell (HBC HW.out) 0
    by_cases hlt : i < R.length
    · have hltI : (i : Int) < (R.length : Int) := by omega
      obtain ⟨r, hr⟩ : ∃ r, R[i]? = some r := ⟨R[i], List.getElem?_eq_getElem hlt⟩
      obtain rfl := HC.out.la (by omega)
      obtain ⟨rfl, _, _, _⟩ := HNA.out (by omega)
      have x0 := (HW.out.cellL hr).1
      rw [fA_self, lenR_get hr] at x0
      have hend := end_le HC.out hr
      obtain ⟨_, r5, r6, r7⟩ := HC.out.rr i r hr
      have hcI : ((r.2.2 : Nat) : Int) ≤ 9223372036854775807 := by unfold maxLen at r6; omega
      have HRM : ∀ W, Hid (Calls Tryz.prog 36 #[.int .i64 (r.2.1 : Nat), .int .i64 (r.2.2 : Nat)] W fun e w' => e = .returned (.int .i64 (endR R i : Nat)) ∧ w' = W) := fun W => Lib.hid (by rw [hend.2.2]; exact room_any W _ _ (by omega))
      generalize hE : endR R i = E at hend HRM
      have HR := Lib.hid hr
      have HE := Lib.hid hE
      have HEN := Lib.hid (And.intro hend.1 hend.2.1)
      have h0 : Hid (GX 4 24 22 LV R w1 (fA R i r.2.1) (InvT R P1.mark sp1) wr.drew) := Lib.hid (by have := HW.out.drew; rw [lenR_get hr] at this; exact this)
      clear hr hE hend r5 r6 r7
      go_wp2_with fail
      go_still_tail 17, (by kernel_rfl)
      still_call (HRM _).out
      repeat still_step
      refine wpStill_nil ?_
      clear HRM
      go_wp2_with fail
      have hEI : (E : Int) ≤ 9223372036854775807 := by have := HEN.out; omega
      clear HW x0 b0
      go_loopw [] (fun wr => ∃ (c : Nat), r.2.1 ≤ c ∧ c ≤ E ∧ Hid (GX 4 24 22 LV R w1 (fA R i c) (InvT R P1.mark sp1) wr)) (fun wr => E - lenAt LV i wr)
      case atStart => exact ⟨r.2.1, by omega, HEN.out.1, h0⟩
      case round =>
        obtain ⟨c, hc1, hc2, HW⟩ := hrel
        obtain ⟨b0, _⟩ := heapcell (HBC HW.out) 0
        obtain ⟨x0, fx0⟩ := HW.out.cellL HR.out
        rw [fA_self] at x0
        have HLA := Lib.hid (lenAt_eq x0)
        by_cases hlt2 : c < E
        · have hcI : (c : Int) < (E : Int) := by omega
          go_upto_region 7 with fail
          go_cut [51] from 50 to 52 (fun b wx => ∃ bb, b = .bool bb ∧ Hid (GX 4 24 22 LV R w1 (fA R i c) (InvT R P1.mark sp1) wx))
          case first =>
            go_region
            all_goals
              go_wp2_with fail
              go_meet
              exact ⟨_, rfl, Lib.hid (HW.out.alloc _).drew⟩
          case rest =>
            obtain ⟨bb, rfl, HW2⟩ := hcut
            generalize hwc : wc = W2 at HW2 ⊢
            clear hwc b0 x0 fx0
            have hlv := HW2.out.lts HR.out
            have hBl : B < W2.heap.size := (Array.getElem?_eq_some_iff.1 (HBC HW2.out)).1
            obtain ⟨b0, _⟩ := heapcell (HBC HW2.out) 0
            obtain ⟨x0, fx0⟩ := HW2.out.cellL HR.out
            rw [fA_self] at x0
            have r2' : LV ≠ r.1 := fun e => (HC.out.rr i r HR.out).1 e.symm
            have r1 : r.1 ≠ B := (HRR.out r (List.mem_of_getElem? HR.out)).1
            have r1' : B ≠ r.1 := fun e => r1 e.symm
            have r2 : r.1 ≠ LV := fun e => r2' e.symm
            have hi4 : (i : Int) ≤ 4 := by omega
            have hwi : IntKind.i64.wrap (-1 - (i : Int)) = -1 - (i : Int) := by exact IntWalk.i64_in _ (by omega)
            have HROOM : Hid (c + 1 ≤ r.2.2) := Lib.hid (by have := HEN.out.2; omega)
            have HSP : ∀ o, Hid (∀ q, q < 4 → ((W2.alloc o).cell? ⟨r.1, c * 4 + q, none⟩).isSome = true ∧ (W2.alloc o).frozen? ⟨r.1, c * 4 + q, none⟩ = false) := fun o => Lib.hid (fun q hq => by
              obtain ⟨⟨v, hv⟩, hf⟩ := (HW2.out.alloc o).cellR (p := c * 4 + q) HR.out (by have := HROOM.out; omega)
              exact ⟨by rw [hv]; rfl, hf⟩)
            have HSPd : ∀ o, Hid (∀ q, q < 4 → ((W2.drew.alloc o).cell? ⟨r.1, c * 4 + q, none⟩).isSome = true ∧ (W2.drew.alloc o).frozen? ⟨r.1, c * 4 + q, none⟩ = false) := fun o => Lib.hid (fun q hq => by
              obtain ⟨⟨v, hv⟩, hf⟩ := (HW2.out.drew.alloc o).cellR (p := c * 4 + q) HR.out (by have := HROOM.out; omega)
              exact ⟨by rw [hv]; rfl, hf⟩)
            have HLVB := Lib.hid (And.intro hlv hBl)
            have HB0 := Lib.hid b0
            have hlen : ¬ c < lenR R i := by rw [lenR_get HR.out]; omega
            have HNEW : Hid (∀ q, InvT R P1.mark sp1 i c q (sp1 i q)) := Lib.hid (fun q => (if_neg hlen).symm)
            clear hlen
            have HONE : Hid (∀ u ∈ [Value.string ⟨#[]⟩, .int .i64 (-1 - (i : Int)), .string ⟨#[120]⟩, .slice none 0 0], u.oneCell' = true) := Lib.hid (fun u hu => by simp at hu; rcases hu with rfl | rfl | rfl | rfl <;> rfl)
            cases bb
            · have b0a : ∀ o, (W2.alloc o).cell? ⟨B, 0, none⟩ = some (.slice (some ⟨LV, 0, none⟩) R.length lc) := fun o => (heapcell (HBC (HW2.out.alloc o)) 0).1
              have x0a : ∀ o, (W2.alloc o).cell? ⟨LV, i, none⟩ = some (.slice (some ⟨r.1, 0, none⟩) c r.2.2) := fun o => by
                have := ((HW2.out.alloc o).cellL HR.out).1
                rwa [fA_self] at this
              have fx0a : ∀ o, (W2.alloc o).frozen? ⟨LV, i, none⟩ = false := fun o => ((HW2.out.alloc o).cellL HR.out).2
              have hb0 := HBC HW2.out
              clear hlv hBl
              go_upto_region 10 with fail
              go_region_law (refine step_append_four (by rfl) _ _ _ (by rfl) 24 i24 Tryz.underlying22 HI.out.1 HI.out.2 r.1 c r.2.2 (by rfl) ⟨W2.heap.size, 0, none⟩ 1 (.string ⟨#[]⟩) (.int .i64 (-1 - (i : Int))) (.string ⟨#[120]⟩) (.slice none 0 0) (by rfl) (four_new _ _ _ _ _ _) HONE.out HROOM.out (HSP _).out ?_)
              all_goals
                have HG1 := Lib.hid (((HW2.out.alloc (.cells #[.string ⟨#[]⟩, .int .i64 (-1 - (i : Int)), .string ⟨#[120]⟩, .slice none 0 0] 24)).grow (Inv' := InvT R P1.mark sp1) (F' := fA R i (c + 1)) HC.out (by decide) HR.out (fA_self R i c) HROOM.out (sp1 i) (kbs_four (g := r.1) (o0 := c * 4) (o1 := c * 4 + 1) (o2 := c * 4 + 2) (o3 := c * 4 + 3) (x0 := .string ⟨#[]⟩) (x1 := .int .i64 (-1 - (i : Int))) (x2 := .string ⟨#[120]⟩) (x3 := .slice none 0 0)) (fun c0 h => row_four h c _ _ _ _) (fA_next R i c) (fun _ _ _ _ _ h => h) HNEW.out).drew)
                go_wp2_with fail
                go_roundw
                case rel => exact ⟨c + 1, by omega, by omega, HG1⟩
                case measure =>
                  have h1 := lenAt_eq (HG1.out.cellL HR.out).1
                  rw [fA_self] at h1
                  exact meas_lt h1 HLA.out hlt2
            · have x0a : ∀ o, (W2.alloc o).cell? ⟨LV, i, none⟩ = some (.slice (some ⟨r.1, 0, none⟩) c r.2.2) := fun o => by
                have := ((HW2.out.alloc o).cellL HR.out).1
                rwa [fA_self] at this
              have fx0a : ∀ o, (W2.alloc o).frozen? ⟨LV, i, none⟩ = false := fun o => ((HW2.out.alloc o).cellL HR.out).2
              clear hlv hBl
              go_upto_region 8 with fail
              go_wp2_with (at_builtin; refine wpList_append_four ?hg (.tmp 58) (.tmp 63) 22 ?hop 24 i24 Tryz.underlying22 HI.out.1 HI.out.2 r.1 c r.2.2 ?hs ⟨W2.heap.size, 0, none⟩ 1 (.string ⟨#[]⟩) (.int .i64 0) (.string ⟨#[]⟩) (.slice none 0 0) ?hx ?hc ?c1 HROOM.out ?hsp (Hid.out ?next))
              case hg => rfl
              case hop => rfl
              case hs => rfl
              case hx => rfl
              case hc => exact four_new _ _ _ _ _ _
              case hsp => exact (HSP _).out
              case c1 => intro u hu; simp at hu; rcases hu with rfl | rfl | rfl | rfl <;> rfl
              case next =>
                refine Lib.hid ?_
                have HZ := Lib.hid ((HW2.out.alloc (.cells #[.string ⟨#[]⟩, .int .i64 0, .string ⟨#[]⟩, .slice none 0 0] 24)).elem (Inv' := fun j k q v => ¬ (j = i ∧ k = c) → InvT R P1.mark sp1 j k q v) HC.out (by decide) HR.out (k0 := c) (four (.string ⟨#[]⟩) (.int .i64 0) (.string ⟨#[]⟩) (.slice none 0 0)) (kbs_four (g := r.1) (o0 := c * 4) (o1 := c * 4 + 1) (o2 := c * 4 + 2) (o3 := c * 4 + 3) (x0 := .string ⟨#[]⟩) (x1 := .int .i64 0) (x2 := .string ⟨#[]⟩) (x3 := .slice none 0 0)) (fun c0 h => row_four h c _ _ _ _) (fun _ _ _ _ _ h _ => h) (fun _ h => (h ⟨rfl, rfl⟩).elim))
                have HG1 := Lib.hid ((HW2.out.alloc (.cells #[.string ⟨#[]⟩, .int .i64 0, .string ⟨#[]⟩, .slice none 0 0] 24)).grow (Inv' := fun j k q v => ¬ (j = i ∧ k = c) → InvT R P1.mark sp1 j k q v) (F' := fA R i (c + 1)) HC.out (by decide) HR.out (fA_self R i c) HROOM.out (four (.string ⟨#[]⟩) (.int .i64 0) (.string ⟨#[]⟩) (.slice none 0 0)) (kbs_four (g := r.1) (o0 := c * 4) (o1 := c * 4 + 1) (o2 := c * 4 + 2) (o3 := c * 4 + 3) (x0 := .string ⟨#[]⟩) (x1 := .int .i64 0) (x2 := .string ⟨#[]⟩) (x3 := .slice none 0 0)) (fun c0 h => row_four h c _ _ _ _) (fA_next R i c) (fun _ _ _ _ _ h _ => h) (fun _ h => (h ⟨rfl, rfl⟩).elim))
                clear x0a fx0a x0 fx0 b0
                generalize ((((W2.alloc (.cells #[.string ⟨#[]⟩, .int .i64 0, .string ⟨#[]⟩, .slice none 0 0] 24)).setCell ⟨r.1, c * 4, none⟩ (.string ⟨#[]⟩)).setCell ⟨r.1, c * 4 + 1, none⟩ (.int .i64 0)).setCell ⟨r.1, c * 4 + 2, none⟩ (.string ⟨#[]⟩)).setCell ⟨r.1, c * 4 + 3, none⟩ (.slice none 0 0) = W3 at HZ HG1 ⊢
                obtain ⟨x0, fx0⟩ := HZ.out.cellL HR.out
                rw [fA_self] at x0
                go_upto_region 9 with fail
                generalize (W3.setCell ⟨LV, i, none⟩ (.slice (some ⟨r.1, 0, none⟩) (c + 1) r.2.2)) = W4 at HG1 ⊢
                obtain ⟨⟨v0, g0⟩, e0⟩ := HG1.out.cellR (p := c * 4) HR.out (by have := HROOM.out; omega)
                obtain ⟨⟨v1, g1⟩, e1⟩ := HG1.out.cellR (p := c * 4 + 1) HR.out (by have := HROOM.out; omega)
                obtain ⟨⟨v2, g2⟩, e2⟩ := HG1.out.cellR (p := c * 4 + 2) HR.out (by have := HROOM.out; omega)
                obtain ⟨⟨v3, g3⟩, e3⟩ := HG1.out.cellR (p := c * 4 + 3) HR.out (by have := HROOM.out; omega)
                have HG := Lib.hid (HG1.out.elem (Inv' := InvT R P1.mark sp1) HC.out (by decide) HR.out (k0 := c) (sp1 i) (kbs_four (g := r.1) (o0 := c * 4) (o1 := c * 4 + 1) (o2 := c * 4 + 2) (o3 := c * 4 + 3) (x0 := .string ⟨#[]⟩) (x1 := .int .i64 (-1 - (i : Int))) (x2 := .string ⟨#[120]⟩) (x3 := .slice none 0 0)) (fun c0 h => row_four h c _ _ _ _) (fun _ _ _ _ hn h => h hn) HNEW.out)
                clear x0 fx0 HZ HG1
                go_wp2_with fail
                go_roundw
                case rel => exact ⟨c + 1, by omega, by omega, HG⟩
                case measure =>
                  have h1 := lenAt_eq (HG.out.cellL HR.out).1
                  rw [fA_self] at h1
                  exact meas_lt h1 HLA.out hlt2
        · obtain rfl : c = E := by omega
          have hcI : ¬ ((c : Int) < (c : Int)) := by omega
          go_wp2_with fail
          go_roundw
          case rel => exact ⟨i + 1, by omega, by go_num, Lib.hid (HW.out.mono (fun j r hj => by rw [fA_end, HE.out]) (fun _ _ _ _ _ _ _ h => h))⟩
          case measure => simp [intOf]; omega
    · obtain rfl : i = R.length := by omega
      have hltI : ¬ ((R.length : Int) < (R.length : Int)) := by omega
      have HW2 : Hid (GX 4 24 22 LV R w1 (endR R) (InvT R P1.mark sp1) wr) := Lib.hid (HW.out.mono (fun j r hj => (fA_done R _ hj).symm) (fun _ _ _ _ _ _ _ h => h))
      clear HW
      go_wp2_with fail
      go_loopw [5] (fun iv wr => ∃ i : Nat, i ≤ R.length ∧ iv = .int .i64 i ∧ Hid (GX 4 24 22 LV R w1 (endR R) (InvT R P1.mark sp1) wr))
        (fun iv _ => R.length - (intOf iv).toNat)
      case atStart => exact ⟨0, by omega, rfl, HW2⟩
      case round =>
        obtain ⟨i, hi, rfl, HW⟩ := hrel
        obtain ⟨b0, _⟩ := heapcell (HBC HW.out) 0
        by_cases hlt : i < R.length
        · have hltI : (i : Int) < (R.length : Int) := by omega
          obtain ⟨r, hr⟩ : ∃ r, R[i]? = some r := ⟨R[i], List.getElem?_eq_getElem hlt⟩
          obtain rfl := HC.out.la (by omega)
          obtain ⟨rfl, _, _, _⟩ := HNA.out (by omega)
          have HR := Lib.hid hr
          obtain ⟨E, hE⟩ : ∃ E, E = endR R i := ⟨_, rfl⟩
          have HE := Lib.hid hE
          have h8I : (E : Int) ≤ 140000 := by
            have := end_le HC.out hr
            have := (HC.out.rr i r hr).2.2.2
            omega
          have h7I : (r.2.1 : Int) ≤ 70000 := by
            have := (HC.out.rr i r hr).2.2.2
            omega
          have hi4 : (i : Int) ≤ 4 := by omega
          have hwi : IntKind.i64.wrap (-1 - (i : Int)) = -1 - (i : Int) := by exact IntWalk.i64_in _ (by omega)
          clear hr hE
          go_wp2_with fail
          go_loopw [6] (fun kv' wr => ∃ k : Nat, k ≤ E ∧ kv' = .int .i64 k ∧ Hid (GX 4 24 22 LV R w1 (endR R) (InvT R P1.mark sp1) wr))
            (fun kv' _ => E - (intOf kv').toNat)
          case atStart => exact ⟨0, by omega, rfl, HW⟩
          case round =>
            obtain ⟨k, hk, rfl, HW⟩ := hrel
            obtain ⟨b0, _⟩ := heapcell (HBC HW.out) 0
            have x0 := (HW.out.cellL HR.out).1
            rw [← HE.out] at x0
            by_cases hlt2 : k < E
            · have hkI : (k : Int) < (E : Int) := by omega
              have hmk : ∀ q, q < 4 → wr.cell? ⟨r.1, k * 4 + q, none⟩ = some (if k < r.2.1 then P1.mark i q else sp1 i q) := fun q hq => by
                obtain ⟨v, hv, e⟩ := HW.out.cellM (k := k) HR.out (by rw [← HE.out]; exact hlt2) hq
                unfold InvT at e
                rw [lenR_get HR.out] at e
                rw [hv, e]
              have m0 := hmk 0 (by decide)
              have m1 := hmk 1 (by decide)
              have m2 := hmk 2 (by decide)
              have m3 := hmk 3 (by decide)
              rw [Nat.add_zero] at m0
              clear hmk
              have HA := fun o n => Lib.hid ((HW.out.alloc o).same (drewN_below _ n))
              by_cases hkl : k < r.2.1
              · rw [if_pos hkl] at m0 m1 m2 m3
                simp only [P1, four, if_true, if_false, show ¬ (1 : Nat) = 0 by decide, show ¬ (2 : Nat) = 0 by decide, show ¬ (2 : Nat) = 1 by decide, show ¬ (3 : Nat) = 0 by decide, show ¬ (3 : Nat) = 1 by decide, show ¬ (3 : Nat) = 2 by decide] at m0 m1 m2 m3
                have hklI : (k : Int) < (r.2.1 : Int) := by omega
                have hd : decide (r.2.1 ≤ k) = false := decide_eq_false (by omega)
                clear hkl
                go_upto_region 18 with fail
                obtain ⟨b1, _⟩ := heapcell (HBC (HW.out.alloc (.cells #[.string ⟨#[]⟩, .int .i64 (-1 - (i : Int)), .string ⟨#[]⟩, .slice none 0 0] 24))) 1
                have n0 := HNV.out _ _ _ (HW.out.alloc (.cells #[.string ⟨#[]⟩, .int .i64 (-1 - (i : Int)), .string ⟨#[]⟩, .slice none 0 0] 24)) i r HR.out
                go_quiet (fail)
                go_wp2_with fail
                go_roundw
                case rel => exact ⟨k + 1, by omega, by go_num, HA _ _⟩
                case measure => simp [intOf]; omega
              · rw [if_neg hkl] at m0 m1 m2 m3
                simp only [sp1, four, if_true, if_false, show ¬ (1 : Nat) = 0 by decide, show ¬ (2 : Nat) = 0 by decide, show ¬ (2 : Nat) = 1 by decide, show ¬ (3 : Nat) = 0 by decide, show ¬ (3 : Nat) = 1 by decide, show ¬ (3 : Nat) = 2 by decide] at m0 m1 m2 m3
                have hklI : ¬ (k : Int) < (r.2.1 : Int) := by omega
                have hd : decide (r.2.1 ≤ k) = true := decide_eq_true (by omega)
                clear hkl
                go_upto_region 18 with fail
                obtain ⟨b1, _⟩ := heapcell (HBC (HW.out.alloc (.cells #[.string ⟨#[]⟩, .int .i64 (-1 - (i : Int)), .string ⟨#[120]⟩, .slice none 0 0] 24))) 1
                have n0 := HNV.out _ _ _ (HW.out.alloc (.cells #[.string ⟨#[]⟩, .int .i64 (-1 - (i : Int)), .string ⟨#[120]⟩, .slice none 0 0] 24)) i r HR.out
                go_quiet (fail)
                go_wp2_with fail
                go_roundw
                case rel => exact ⟨k + 1, by omega, by go_num, HA _ _⟩
                case measure => simp [intOf]; omega
            · obtain rfl : k = E := by omega
              have hkI : ¬ (k : Int) < (k : Int) := by omega
              go_wp2_with fail
              go_roundw
              case rel => exact ⟨i + 1, by omega, by go_num, HW⟩
              case measure => simp [intOf]; omega
        · obtain rfl : i = R.length := by omega
          have hltI : ¬ ((R.length : Int) < (R.length : Int)) := by omega
          go_wp2_with fail
          go_ret
          exact ⟨rfl, HBA HW.out⟩
end

section
open Go.RowKit
set_option maxRecDepth 100000
theorem info61 : (Tryz.prog.info? 61).map (fun i => (i.zero, i.size, i.bytes)) = some (some (.slice none 0 0), 1, 24) := by kernel_rfl
/-- A list of names lies there. -/
def RowN (w : World) (r : Rw) : Prop := ∃ c, RowC w r.1 9 (r.2.2 * 1) c ∧ r.2.1 ≤ r.2.2 ∧ r.2.2 ≤ maxLen ∧ r.2.1 ≤ 14 ∧ 0 < r.2.2
theorem RowN.keep {w w' : World} {r : Rw} (h : RowN w r) (hk : w'.heap[r.1]? = w.heap[r.1]?) : RowN w' r := by
  obtain ⟨c, h1, h2⟩ := h
  exact ⟨c, h1.keep hk, h2⟩
theorem RowN.lt {w : World} {r : Rw} (h : RowN w r) : r.1 < w.heap.size := by
  obtain ⟨c, h1, _⟩ := h
  exact h1.lt
/-- Lists of names, and their size. -/
structure LK (base : Nat) (w : World) (B : Nat) (R : List Rw) (lv : Value) (z : Int) : Prop where
  c : w.heap[B]? = some (.cells #[lv, .int .i64 z] 43 (0, 0))
  l : w.ownsRow base 61 1 lv R.length (R.map rowV)
  m : ∀ r ∈ R, RowN w r
  z0 : 0 ≤ z
  nd : (B :: (lv.ownBlock.toList ++ R.map (·.1))).Nodup
  hb : base ≤ B
  rb : ∀ r ∈ R, base ≤ r.1
def lkB (B : Nat) (R : List Rw) (lv : Value) : List Nat := B :: (lv.ownBlock.toList ++ R.map (·.1))
theorem mem_lkB {B : Nat} {R : List Rw} {lv : Value} {g : Nat} : g ∈ lkB B R lv ↔ g = B ∨ lv.ownBlock = some g ∨ ∃ r ∈ R, r.1 = g := by
  simp [lkB]
theorem nd2 (B : Nat) (a : Option Nat) (rs : List Nat) : (B :: (a.toList ++ rs)).Nodup ↔ (∀ x, a = some x → x ≠ B ∧ x ∉ rs) ∧ B ∉ rs ∧ rs.Nodup := by
  cases a <;> simp [List.nodup_cons, eq_comm] <;> grind
theorem LK.lt {base B : Nat} {w : World} {R : List Rw} {lv : Value} {z : Int} (h : LK base w B R lv z) : ∀ g ∈ lkB B R lv, base ≤ g ∧ g < w.heap.size := fun g hg => by
  rcases mem_lkB.1 hg with rfl | hg | ⟨r, hr, rfl⟩
  · exact ⟨h.hb, (Array.getElem?_eq_some_iff.1 h.c).1⟩
  · exact h.l.lt g hg
  · exact ⟨h.rb r hr, (h.m r hr).lt⟩
theorem LK.keep {base B : Nat} {w w' : World} {R : List Rw} {lv : Value} {z : Int} (h : LK base w B R lv z) (hk : ∀ g ∈ lkB B R lv, w'.heap[g]? = w.heap[g]?) : LK base w' B R lv z :=
  ⟨(hk B (mem_lkB.2 (.inl rfl))).trans h.c, ownsRow_keep h.l (fun g e => hk g (mem_lkB.2 (.inr (.inl e)))), fun r hr => (h.m r hr).keep (hk r.1 (mem_lkB.2 (.inr (.inr ⟨r, hr, rfl⟩)))), h.z0, h.nd, h.hb, h.rb⟩
theorem LK.setz {base B : Nat} {w w' : World} {R : List Rw} {lv : Value} {z z2 : Int} (h : LK base w B R lv z) (hc : w'.heap[B]? = some (.cells #[lv, .int .i64 z2] 43 (0, 0))) (hk : ∀ g, g ≠ B → g < w.heap.size → w'.heap[g]? = w.heap[g]?) (hz : 0 ≤ z2) : LK base w' B R lv z2 := by
  have hn := (nd2 _ _ _).1 h.nd
  have hl := h.lt
  refine ⟨hc, ownsRow_keep h.l (fun g e => hk g (hn.1 g e).1 (hl g (mem_lkB.2 (.inr (.inl e)))).2), fun r hr => (h.m r hr).keep (hk r.1 (fun e => hn.2.1 (e ▸ List.mem_map.2 ⟨r, hr, rfl⟩)) (h.m r hr).lt), hz, h.nd, h.hb, h.rb⟩
theorem LK.snoc {base B : Nat} {w w' : World} {R : List Rw} {lv lv' : Value} {z : Int} {r : Rw} (h : LK base w B R lv z) (hc : w'.heap[B]? = some (.cells #[lv', .int .i64 z] 43 (0, 0)))
    (hl : w'.ownsRow base 61 1 lv' (R.length + 1) (R.map rowV ++ [rowV r])) (hk : KBs (B :: lv.ownBlock.toList) w w') (hr : RowN w r) (hrb : base ≤ r.1) (hrn : r.1 ∉ lkB B R lv)
    (hl2 : ∀ g, lv'.ownBlock = some g → lv.ownBlock = some g ∨ w.heap.size ≤ g) : LK base w' B (R ++ [r]) lv' z := by
  have hnd := (nd2 _ _ _).1 h.nd
  have hlt := h.lt
  have hrn' := fun x => hrn (mem_lkB.2 x)
  have hBlt := (hlt B (mem_lkB.2 (.inl rfl))).2
  have key : ∀ g, g < w.heap.size → g ≠ B → lv.ownBlock ≠ some g → w'.heap[g]? = w.heap[g]? := fun g h1 h2 h3 => hk.block g h1 (by simp [h2]; exact h3)
  have hall : ∀ q ∈ R ++ [r], RowN w q ∧ q.1 ≠ B ∧ lv.ownBlock ≠ some q.1 ∧ base ≤ q.1 := fun q hq => by
    rcases List.mem_append.1 hq with h1 | h1
    · have hm : q.1 ∈ R.map (·.1) := List.mem_map.2 ⟨q, h1, rfl⟩
      exact ⟨h.m q h1, fun e => hnd.2.1 (e ▸ hm), fun e => (hnd.1 _ e).2 hm, h.rb q h1⟩
    · simp at h1; subst h1
      exact ⟨hr, fun e => hrn' (.inl e), fun e => hrn' (.inr (.inl e)), hrb⟩
  refine ⟨hc, by simpa using hl, fun q hq => (hall q hq).1.keep (key q.1 (hall q hq).1.lt (hall q hq).2.1 (hall q hq).2.2.1), h.z0, (nd2 _ _ _).2 ⟨fun x hx => ⟨fun e => ?_, fun hm => ?_⟩, fun hm => ?_, ?_⟩, h.hb, fun q hq => (hall q hq).2.2.2⟩
  · rcases hl2 x hx with h1 | h1
    · exact (hnd.1 x h1).1 e
    · omega
  · obtain ⟨q, hq, rfl⟩ := List.mem_map.1 hm
    rcases hl2 _ hx with h1 | h1
    · exact (hall q hq).2.2.1 h1
    · have := (hall q hq).1.lt; omega
  · obtain ⟨q, hq, e⟩ := List.mem_map.1 hm
    exact (hall q hq).2.1 e
  · rw [List.map_append, List.nodup_append]
    refine ⟨hnd.2.2, by simp, fun a ha b hb hab => ?_⟩
    simp at hb
    obtain ⟨q, hq, rfl⟩ := List.mem_map.1 ha
    exact hrn' (.inr (.inr ⟨q, hq, hab.trans hb⟩))
/-- Where the loop stands. -/
structure LKI (base : Nat) (w : World) (B : Nat) (R rs : List Rw) (lv : Value) (i : Nat) (lvi : Value) (zi : Int) (wr : World) : Prop where
  bk : LK base wr B (R ++ rs.take i) lvi zi
  kb : KBs (B :: lv.ownBlock.toList) w wr
  nl : ∀ g, lvi.ownBlock = some g → lv.ownBlock = some g ∨ w.heap.size ≤ g
/-- What the loop leans on. -/
structure LKC (base : Nat) (w : World) (B : Nat) (R rs : List Rw) (lv : Value) (z : Int) : Prop where
  bk : LK base w B R lv z
  nd : (rs.map (·.1)).Nodup
  rb : ∀ r ∈ rs, RowN w r ∧ base ≤ r.1 ∧ r.1 ∉ lkB B R lv
theorem LKI.step {base B : Nat} {w wr W8 W10 : World} {R rs : List Rw} {lv lvi lv2 : Value} {z zi z2 : Int} {i : Nat} (T : LKI base w B R rs lv i lvi zi wr) (C : LKC base w B R rs lv z) (hi : i < rs.length) (h8 : LK base W8 B (R ++ rs.take i) lvi z2) (k8 : KBs [B] wr W8)
    (c10 : W10.heap[B]? = some (.cells #[lv2, .int .i64 z2] 43 (0, 0))) (l10 : W10.ownsRow base 61 1 lv2 ((R ++ rs.take i).length + 1) ((R ++ rs.take i).map rowV ++ [rowV rs[i]])) (k10 : KBs (B :: lvi.ownBlock.toList) W8 W10) (n10 : ∀ g, lv2.ownBlock = some g → lvi.ownBlock = some g ∨ W8.heap.size ≤ g) :
    LKI base w B R rs lv (i + 1) lv2 z2 W10 := by
  have hri : rs[i] ∈ rs := List.getElem_mem hi
  obtain ⟨hr, hrb, hrn⟩ := C.rb _ hri
  have hrn' := fun x => hrn (mem_lkB.2 x)
  have hrl := hr.lt
  have s8 := k8.size
  have sw := T.kb.size
  have htk : rs.take (i + 1) = rs.take i ++ [rs[i]] := List.take_succ_eq_append_getElem hi
  have hlvi : lvi.ownBlock ≠ some rs[i].1 := fun e => by
    rcases T.nl _ e with h | h
    · exact hrn' (.inr (.inl h))
    · omega
  have hrw : RowN wr rs[i] := hr.keep (T.kb.block _ hrl (by simp; exact ⟨fun e => hrn' (.inl e), fun e => hrn' (.inr (.inl e))⟩))
  have hr8 : RowN W8 rs[i] := hrw.keep (k8.block _ hrw.lt (by simpa using fun e => hrn' (.inl e)))
  refine ⟨?_, T.kb.trans (cs := B :: lvi.ownBlock.toList) ⟨k10.os.trans k8.os, k10.tape.trans k8.tape, k10.output.trans k8.output, Nat.le_trans s8 k10.size, fun g h1 h2 => ?_⟩ (fun g hg => ?_), fun g e => ?_⟩
  · rw [htk, ← List.append_assoc]
    refine h8.snoc c10 l10 k10 hr8 hrb (fun hm => ?_) n10
    rcases mem_lkB.1 hm with h | h | ⟨q, hq, h⟩
    · exact hrn' (.inl h)
    · exact hlvi h
    · rcases List.mem_append.1 hq with hq | hq
      · exact hrn' (.inr (.inr ⟨q, hq, h⟩))
      · have := C.nd
        rw [← List.take_append_drop (i + 1) rs, htk, List.map_append, List.map_append, List.nodup_append, List.nodup_append] at this
        exact this.1.2.2 q.1 (List.mem_map.2 ⟨q, hq, rfl⟩) rs[i].1 (by simp) h
  · simp at h2
    rw [k10.block g (by omega) (by simp; exact h2), k8.block g h1 (by simpa using h2.1)]
  · simp at hg
    rcases hg with rfl | h
    · exact .inl (by simp)
    · rcases T.nl g h with h | h
      · exact .inl (by simp [h])
      · exact .inr h
  · rcases n10 g e with h | h
    · exact T.nl g h
    · right; omega
set_option maxHeartbeats 8000000 in
theorem lkeep_any (w : World) (base B A c : Nat) (R rs : List Rw) (lv : Value) (z : Int) (hC : LKC base w B R rs lv z) (hav : ∀ (i : Nat) (r : Rw), rs[i]? = some r → w.cell? ⟨A, i, none⟩ = some (rowV r)) (hA : A ≠ B ∧ lv.ownBlock ≠ some A)
    (hl : R.length + rs.length ≤ 6) (hz : z ≤ 70014 * (R.length : Int)) :
    Calls Tryz.prog 13 #[.pointer (some ⟨B, 0, none⟩), .slice (some ⟨A, 0, none⟩) rs.length c] w fun e w' => e = .returned (.tuple #[]) ∧ ∃ lv' z', LKI base w B R rs lv rs.length lv' z' w' ∧ z' ≤ 70014 * ((R.length + rs.length : Nat) : Int) := by
  obtain ⟨i61, hi61, hq0, hq1, hq2⟩ := info_parts info61
  have HQ := Lib.hid (And.intro hi61 (And.intro hq0 (And.intro hq1 hq2)))
  have HC := Lib.hid hC
  have HAV := Lib.hid hav
  have HA := Lib.hid hA
  have HL := Lib.hid hl
  have HZ := Lib.hid hz
  have hrl6 : rs.length ≤ 6 := by omega
  clear hi61 hq0 hq1 hq2 hC hav hA hl hz
  go_enter Tryz.func13, Tryz.ntmps13
  go_wp2_with fail
  go_loopw [4] (fun iv wr => ∃ (i : Nat) (lvi : Value) (zi : Int), i ≤ rs.length ∧ iv = .int .i64 i ∧ Hid (LKI base w B R rs lv i lvi zi wr) ∧ Hid (zi ≤ 70014 * ((R.length + i : Nat) : Int)))
    (fun iv _ => rs.length - (intOf iv).toNat)
  case atStart => exact ⟨0, lv, z, by omega, rfl, Lib.hid ⟨by simpa using HC.out.bk, KBs.refl _ _, fun g h => .inl h⟩, Lib.hid (by simpa using HZ.out)⟩
  case round =>
    obtain ⟨i, lvi, zi, hi, rfl, HT, HZI⟩ := hrel
    by_cases hlt : i < rs.length
    · have hltI : (i : Int) < (rs.length : Int) := by omega
      obtain ⟨_, _, hr1, hr2, hr3, hr4⟩ := (HC.out.rb rs[i] (List.getElem_mem hlt)).1
      have x00 := HAV.out i _ (List.getElem?_eq_getElem hlt)
      have hAl : A < w.heap.size := World.block_lt_of_cell? _ _ x00
      have HAk : Hid (∀ wx, KBs (B :: lvi.ownBlock.toList) wr wx → wx.heap[A]? = w.heap[A]?) := Lib.hid (fun wx k => by
        rw [k.block A (Nat.lt_of_lt_of_le hAl HT.out.kb.size) (by
          simp [HA.out.1]
          intro e
          rcases HT.out.nl A e with h | h
          · exact HA.out.2 h
          · omega), HT.out.kb.block A hAl (by simp [HA.out.1]; exact HA.out.2)])
      have x0 : wr.cell? ⟨A, i, none⟩ = some (rowV rs[i]) := (cellOf_heap (HAk.out wr (KBs.refl _ _))).trans x00
      have HX00 := Lib.hid x00
      obtain ⟨b1, f1⟩ := heapcell HT.out.bk.c 1
      have hzi0 := HT.out.bk.z0
      have hzb := HZI.out
      have hrb : R.length + i + 1 ≤ 6 := by have := HL.out; omega
      have hcapI : ((rs[i].2.2 : Nat) : Int) ≤ 9223372036854775807 := by unfold maxLen at hr2; omega
      obtain ⟨rm, hrm⟩ : ∃ rm : Int, rm = min ((rs[i].2.2 : Nat) : Int) (((rs[i].2.1 : Nat) : Int) + 70000) := ⟨_, rfl⟩
      have hrm1 : 0 ≤ rm ∧ rm ≤ 70014 := by omega
      have HRM : ∀ W, Hid (Calls Tryz.prog 36 #[.int .i64 (rs[i].2.1 : Nat), .int .i64 (rs[i].2.2 : Nat)] W fun e w' => e = .returned (.int .i64 rm) ∧ w' = W) := fun W => Lib.hid (by rw [hrm]; exact room_any W _ _ (by omega))
      obtain ⟨z2, hz2⟩ : ∃ z2 : Int, z2 = zi + rm := ⟨_, rfl⟩
      have hwC : IntKind.i64.wrap (zi + rm) = z2 := by rw [hz2]; exact IntWalk.i64_in _ (by omega)
      have HZ2 : Hid (0 ≤ z2 ∧ z2 ≤ 70014 * ((R.length + (i + 1) : Nat) : Int)) := Lib.hid (by omega)
      have hz2b : z2 < 524288 := by omega
      have hcp0 : (0 : Int) < ((rs[i].2.2 : Nat) : Int) := by omega
      unfold rowV at x0
      generalize hgg : rs[i].1 = g at x0
      generalize hnnn : rs[i].2.1 = n at x0 HRM
      generalize hcc : rs[i].2.2 = cp at x0 HRM hcp0
      have HEQ := Lib.hid (And.intro hgg (And.intro hnnn hcc))
      clear hr1 hr2 hr3 hr4 hcapI hgg hnnn hcc hrm hz2 hrb hzb x00 hAl hrm1
      go_upto_region 3 with fail
      go_cut [] from 11 to 29 (fun wx => Hid (LK base wx B (R ++ rs.take i) lvi z2 ∧ KBs [B] wr wx))
      case first =>
        go_still_tail 17, (by kernel_rfl)
        still_call (HRM _).out
        repeat still_step
        refine wpStill_nil ?_
        change wpList _ _ _ _ _ (World.drew _)
        have h8 : LK base ((World.drew wr).setCell ⟨B, 1, none⟩ (.int .i64 z2)) B (R ++ rs.take i) lvi z2 :=
          HT.out.bk.setz (heap_setA (show (World.drew wr).heap[B]? = _ from HT.out.bk.c) _) (fun g hg _ => heap_set_ne _ hg) HZ2.out.1
        have hk8 : KBs [B] wr ((World.drew wr).setCell ⟨B, 1, none⟩ (.int .i64 z2)) := (KBs.of_below (bs := [B]) (drew_below wr)).trans (KBs.set B 1 _) (fun _ h => .inl h)
        have H8 := Lib.hid (And.intro h8 hk8)
        clear h8 hk8
        have f1' : (World.drew wr).frozen? ⟨B, 1, none⟩ = false := f1
        go_wp2_with fail
        go_meet
        exact H8
      case rest =>
        have H8 := hcut
        clear b1 f1 hwC x0 HRM
        generalize hW8 : wc = W8 at H8 ⊢
        clear hW8
        obtain ⟨b1, _⟩ := heapcell H8.out.1.c 1
        have hBlt : B < W8.heap.size := (H8.out.1.lt B (mem_lkB.2 (.inl rfl))).2
        have y0 : W8.cell? ⟨A, i, none⟩ = some (.slice (some ⟨g, 0, none⟩) n cp) := by
          rw [cellOf_heap (HAk.out W8 (H8.out.2.sub (fun g hg => by simp at hg; subst hg; exact .inl (by simp)))), HX00.out]
          unfold rowV; rw [HEQ.out.1, HEQ.out.2.1, HEQ.out.2.2]
        go_upto_region 5 with fail
        clear b1
        obtain ⟨c0, fc0⟩ := heapcell H8.out.1.c 0
        have hNb : (R ++ rs.take i).length ≤ 6 := by
          have := HL.out
          rw [List.length_append, List.length_take]; omega
        obtain ⟨N, hNN⟩ : ∃ N, N = (R ++ rs.take i).length := ⟨_, rfl⟩
        have HNN := Lib.hid hNN
        rw [← hNN] at hNb
        clear hNN
        have HO8 : Hid ((W8.drew).ownsRow base 61 1 lvi N ((R ++ rs.take i).map rowV)) := Lib.hid (by rw [HNN.out]; exact ownsRow_keep H8.out.1.l (fun _ _ => rfl))
        have HN1 : Hid (∀ u ∈ [Value.slice (some ⟨g, 0, none⟩) n cp], u.oneCell' = true) := Lib.hid (fun u hu => by simp at hu; subst hu; rfl)
        have HN2 : Hid (N + 1 ≤ maxLen) := Lib.hid (by unfold maxLen; omega)
        have HN3 : Hid ((N + 1) * 24 ≤ 140737488355328) := Lib.hid (by omega)
        have HN4 : Hid (∀ o, base ≤ ((W8.drew).alloc o).heap.size) := Lib.hid (fun o => by
          have := H8.out.1.hb
          rw [size_da]; omega)
        have HN5 : Hid (∀ o, B < ((W8.drew).alloc o).heap.size) := Lib.hid (fun o => by
          rw [size_da]; omega)
        have HN6 : Hid (∀ o, ((W8.drew).alloc o).heap[B]? = some (.cells #[lvi, .int .i64 z2] 43 (0, 0))) := Lib.hid (fun o => (Below.heap_alloc W8.drew _ _ hBlt).trans H8.out.1.c)
        have HN7 : Hid (some B ≠ lvi.ownBlock) := Lib.hid (fun e => ((nd2 _ _ _).1 H8.out.1.nd).1 B e.symm |>.1 rfl)
        have c0a : (W8.alloc (.cells #[Value.slice (some ⟨g, 0, none⟩) n cp] 61)).cell? ⟨B, 0, none⟩ = some lvi := (heapcell ((Below.heap_alloc W8 _ _ hBlt).trans H8.out.1.c) 0).1
        have HBlt := Lib.hid hBlt
        clear hNb hBlt
        go_region_law ((refine step_append_lies _ (by rfl) _ _ _ (by rfl) base 61 i61 (.slice none 0 0) 1 24 Tryz.underlying41 HQ.out.1 HQ.out.2.1 HQ.out.2.2.1 HQ.out.2.2.2 (by rfl) (by decide) _ _ _ (by rfl) (HO8.out.alloc _) ⟨W8.heap.size, 0, none⟩ 1 1 [.slice (some ⟨g, 0, none⟩) n cp] (by rfl) (by rfl) (one_new _ _ _) HN1.out (by decide) HN2.out HN3.out (HN4.out _) _ rfl ?_; intro g2 cap2 w1 hown1 hgrow1 hat1 hlt1; have hq := (hgrow1.block B (HN5.out _) HN7.out).trans (HN6.out _); obtain ⟨p0, f0⟩ := heapcell hq 0))
        all_goals
          have HAD := Lib.hid (app_done hq hown1 hgrow1 hat1 HN7.out HBlt.out 0 (.slice (some ⟨g2, 0, none⟩) (N + 1) cap2))
          clear hq hown1 hgrow1 hat1
          go_wp2_with fail
          go_roundw
          case rel =>
            have hN := HNN.out
            have h10 := HAD.out
            refine ⟨i + 1, .slice (some ⟨g2, 0, none⟩) (N + 1) cap2, z2, by omega, by go_num, Lib.hid (HT.out.step HC.out hlt H8.out.1 H8.out.2 h10.1 ?_ h10.2.2.1 h10.2.2.2), Lib.hid HZ2.out.2⟩
            rw [← hN]
            have := h10.2.1
            unfold rowV; rw [HEQ.out.1, HEQ.out.2.1, HEQ.out.2.2]; exact this
          case measure => simp [intOf]; omega
    · obtain rfl : i = rs.length := by omega
      have hltI : ¬ ((rs.length : Int) < (rs.length : Int)) := by omega
      go_wp2_with fail
      go_end0
      exact ⟨rfl, lvi, zi, HT.out, HZI.out⟩
end

section
open Go.RowKit
set_option maxRecDepth 100000
theorem heap_set {w : World} {b j : Nat} {cs : Array Value} {t : TypeId} (h : w.heap[b]? = some (.cells cs t (0, 0))) (v : Value) : (w.setCell ⟨b, j, none⟩ v).heap[b]? = some (.cells (cs.set! j v) t (0, 0)) := by
  unfold World.setCell
  simp [Array.getElem?_modify, h]
/-- Digits laid from a place on. -/
def DigAt (A U u a : Nat) (wr : World) : Prop := ∃ (cs : Array Value) (suf : List UInt8), wr.heap[A]? = some (.cells cs 200 (0, 0)) ∧ cs.size = 21 ∧ a + suf.length = 21 ∧ (∀ j (h : j < suf.length), cs[a + j]? = some (.int .u8 (suf[j].toNat : Int))) ∧ Lib.decDigits U = Lib.decDigits u ++ suf
def TxtAt (A a : Nat) (l : List UInt8) (wr : World) : Prop := ∃ (cs : Array Value), wr.heap[A]? = some (.cells cs 200 (0, 0)) ∧ cs.size = 21 ∧ a + l.length = 21 ∧ (∀ j (h : j < l.length), cs[a + j]? = some (.int .u8 (l[j].toNat : Int)))
theorem decDigits_big {u : Nat} (h : ¬ u < 10) : Lib.decDigits u = Lib.decDigits (u / 10) ++ [UInt8.ofNat (48 + u % 10)] := by rw [Lib.decDigits, dif_neg h]
theorem set_txt {A a : Nat} {cs : Array Value} {l : List UInt8} {wr : World} (h1 : wr.heap[A]? = some (.cells cs 200 (0, 0))) (h2 : cs.size = 21) (h3 : a + 1 + l.length = 21) (h4 : ∀ j (h : j < l.length), cs[a + 1 + j]? = some (.int .u8 (l[j].toNat : Int))) (c : UInt8) :
    TxtAt A a (c :: l) (wr.setCell ⟨A, a, none⟩ (.int .u8 (c.toNat : Int))) := by
  refine ⟨_, heap_set h1 _, by rw [Array.size_set!]; exact h2, by simp; omega, fun j hj => ?_⟩
  cases j with
  | zero =>
    have : a < cs.size := by omega
    simp [Array.set!_eq_setIfInBounds, this]
  | succ j =>
    have := h4 j (by simpa using hj)
    rw [Array.set!_eq_setIfInBounds, Array.getElem?_setIfInBounds_ne (by omega)]
    rw [show a + (j + 1) = a + 1 + j from by omega]
    simpa using this
theorem DigAt.step {A U u a : Nat} {wr : World} (h : DigAt A U u (a + 1) wr) (hu : ¬ u < 10) : DigAt A U (u / 10) a (wr.setCell ⟨A, a, none⟩ (.int .u8 (48 + (u : Int) % 10))) := by
  obtain ⟨cs, suf, h1, h2, h3, h4, h5⟩ := h
  have hc : ((UInt8.ofNat (48 + u % 10)).toNat : Int) = 48 + (u : Int) % 10 := by
    rw [UInt8.toNat_ofNat', Nat.mod_eq_of_lt (by omega)]; omega
  obtain ⟨cs', g1, g2, g3, g4⟩ := set_txt h1 h2 h3 h4 (UInt8.ofNat (48 + u % 10))
  rw [hc] at g1
  exact ⟨cs', _, g1, g2, g3, g4, by rw [h5, decDigits_big hu, List.append_assoc]; rfl⟩
theorem DigAt.last {A U u a : Nat} {wr : World} (h : DigAt A U u (a + 1) wr) (hu : u < 10) : TxtAt A a (Lib.decDigits U) (wr.setCell ⟨A, a, none⟩ (.int .u8 (48 + (u : Int) % 10))) := by
  obtain ⟨cs, suf, h1, h2, h3, h4, h5⟩ := h
  have hc : ((UInt8.ofNat (48 + u)).toNat : Int) = 48 + (u : Int) % 10 := by
    rw [UInt8.toNat_ofNat', Nat.mod_eq_of_lt (by omega)]; omega
  have := set_txt h1 h2 h3 h4 (UInt8.ofNat (48 + u))
  rw [hc] at this
  rw [h5, Lib.decDigits_one hu]
  exact this
theorem TxtAt.conv {A a : Nat} {l : List UInt8} {wr : World} (h : TxtAt A a l wr) (w' : World) (hw : w'.heap = wr.heap) (cap n : Nat) (hn : n = l.length) : (convert 202 9 (.slice (some ⟨A, a, none⟩) n cap)).run Tryz.prog w' = .ok (.string ⟨l.toArray⟩) w' := by
  obtain ⟨cs, h1, h2, h3, h4⟩ := h
  subst hn
  refine run_convert_bytes_back w' 202 9 5 ⟨A, a, none⟩ cap l Tryz.underlying202 Tryz.underlying5 Tryz.underlying9 fun j hj => ?_
  have e1 : (⟨A, a, none⟩ : Addr).add j = ⟨A, a + j, none⟩ := by unfold Addr.add; split <;> simp_all
  rw [e1]
  rw [(heapcell (hw ▸ h1) (a + j)).1]
  exact h4 j hj
theorem slice113 (b a : Nat) (ha : a ≤ 20) (W : World) : (Instr.sliceAt 200 (.pointer (some ⟨b, 0, none⟩)) (some (.int .i64 (a : Int))) none none).run Tryz.prog W = .ok (.slice (some ⟨b, a, none⟩) (21 - a) (21 - a)) W := by
  have h := run_sliceAt_array_l (P := Tryz.prog) W 200 ⟨b, 0, none⟩ (by kernel_rfl) .i64 (a : Int) (by omega) (by rw [show Tryz.prog.arrayLen 200 = 21 from by kernel_rfl]; omega)
  rw [h, show Tryz.prog.elem 200 = 5 from by kernel_rfl, show (sizeOf 5).run Tryz.prog W = .ok 1 W from by kernel_rfl, show Tryz.prog.arrayLen 200 = 21 from by kernel_rfl]
  simp only [Result.andThen, slicedAt, Int.toNat_natCast]
  rw [if_neg (by omega)]
  simp [Addr.add]
  exact fun h => h.symm
set_option maxHeartbeats 2000000 in
theorem digits_any (w : World) (n : Int) (hn : -9223372036854775808 ≤ n ∧ n ≤ 9223372036854775807) : Calls Tryz.prog 38 #[.int .i64 n] w (RetB w (.string ⟨(Lib.itoa n).toArray⟩)) := by
  have hz : TxtAt w.heap.size 21 [] (w.alloc (.cells #[.int .u8 0, .int .u8 0, .int .u8 0, .int .u8 0, .int .u8 0, .int .u8 0, .int .u8 0, .int .u8 0, .int .u8 0, .int .u8 0, .int .u8 0, .int .u8 0, .int .u8 0, .int .u8 0, .int .u8 0, .int .u8 0, .int .u8 0, .int .u8 0, .int .u8 0, .int .u8 0, .int .u8 0] 200)) :=
    ⟨_, heap_alloc_new w _, rfl, rfl, fun j h => by simp at h⟩
  have hb := alloc_below w (.cells #[.int .u8 0, .int .u8 0, .int .u8 0, .int .u8 0, .int .u8 0, .int .u8 0, .int .u8 0, .int .u8 0, .int .u8 0, .int .u8 0, .int .u8 0, .int .u8 0, .int .u8 0, .int .u8 0, .int .u8 0, .int .u8 0, .int .u8 0, .int .u8 0, .int .u8 0, .int .u8 0, .int .u8 0] 200)
  obtain ⟨U, hU⟩ : ∃ U : Nat, U = n.natAbs := ⟨_, rfl⟩
  have HU := Lib.hid hU
  have hU2 : (U : Int) ≤ 9223372036854775808 := by omega
  have hD : DigAt w.heap.size U U 21 (w.alloc (.cells #[.int .u8 0, .int .u8 0, .int .u8 0, .int .u8 0, .int .u8 0, .int .u8 0, .int .u8 0, .int .u8 0, .int .u8 0, .int .u8 0, .int .u8 0, .int .u8 0, .int .u8 0, .int .u8 0, .int .u8 0, .int .u8 0, .int .u8 0, .int .u8 0, .int .u8 0, .int .u8 0, .int .u8 0] 200)) := by
    obtain ⟨cs, h1, h2, h3, h4⟩ := hz
    exact ⟨cs, [], h1, h2, h3, h4, by simp⟩
  have HD := Lib.hid hD
  have HB := Lib.hid hb
  have hP : U < 10 ^ 20 := by omega
  have HP := Lib.hid hP
  have hw1 : n < 0 → IntKind.u64.wrap (-IntKind.u64.wrap n) = (U : Int) := fun h => by unfold IntKind.wrap; simp [IntKind.bits, IntKind.signed]; omega
  have hw2 : ¬ n < 0 → n = (U : Int) := fun h => by omega
  have HW1 := Lib.hid hw1
  have HW2 := Lib.hid hw2
  clear hz hb hU hD hP hw1 hw2
  go_enter Tryz.func38, Tryz.ntmps38
  by_cases h0 : n < 0
  · go_wp2_with fail
    rw [HW1.out h0]
    generalize hW1 : w.alloc _ = wa at HD HB ⊢
    clear hW1
    go_loopw [4, 5] (fun av uv wr => ∃ (a u : Nat), 1 ≤ a ∧ a ≤ 20 ∧ u ≤ U ∧ av = .int .i64 ((a : Int) + 1) ∧ uv = .int .u64 u ∧ Hid (u < 10 ^ a) ∧ Hid (DigAt w.heap.size U u (a + 1) wr) ∧ Hid (Below w.heap.size w wr))
      (fun _ uv _ => (intOf uv).toNat)
    case atStart => exact ⟨20, U, by omega, by omega, by omega, rfl, rfl, HP, HD, HB⟩
    case round =>
      obtain ⟨a, u, ha1, ha2, huU, rfl, rfl, hp, hD, hB⟩ := hrel
      obtain ⟨xk, b0, f0⟩ : ∃ xk, wr.cell? ⟨w.heap.size, a, none⟩ = some xk ∧ wr.frozen? ⟨w.heap.size, a, none⟩ = false := by
        obtain ⟨cs, suf, h1, h2, _⟩ := hD.out
        exact ⟨cs[a]'(by omega), by rw [(heapcell h1 a).1, Array.getElem?_eq_getElem (by omega)], (heapcell h1 a).2⟩
      by_cases hu : u < 10
      · have hu0 : (u : Int) / 10 = 0 := by omega
        have HT := Lib.hid (hD.out.last hu)
        have HBs := Lib.hid (hB.out.setCell (p := ⟨w.heap.size, a, none⟩) (Nat.le_refl _) (.int .u8 (48 + (u : Int) % 10)))
        obtain ⟨xj, b1, f1⟩ : ∃ xj, wr.cell? ⟨w.heap.size, a - 1, none⟩ = some xj ∧ wr.frozen? ⟨w.heap.size, a - 1, none⟩ = false := by
          obtain ⟨cs, suf, h1, h2, _⟩ := hD.out
          exact ⟨cs[a - 1]'(by omega), by rw [(heapcell h1 (a - 1)).1, Array.getElem?_eq_getElem (by omega)], (heapcell h1 (a - 1)).2⟩
        have hs := slice113 w.heap.size (a - 1) (by omega)
        rw [show ((a - 1 : Nat) : Int) = (a : Int) - 1 from by omega] at hs
        have HT2 : Hid (TxtAt w.heap.size (a - 1) (45 :: Lib.decDigits U) ((wr.setCell ⟨w.heap.size, a, none⟩ (.int .u8 (48 + (u : Int) % 10))).setCell ⟨w.heap.size, a - 1, none⟩ (.int .u8 45))) := Lib.hid (by
          obtain ⟨cs, h1, h2, h3, h4⟩ := HT.out
          exact set_txt h1 h2 (by omega) (fun j hj => by rw [show a - 1 + 1 + j = a + j from by omega]; exact h4 j hj) 45)
        have hcv := HT2.out.conv _ rfl (21 - (a - 1)) (21 - (a - 1)) (by
          obtain ⟨cs, h1, h2, h3, h4⟩ := HT2.out
          omega)
        have hi : Lib.itoa n = 45 :: Lib.decDigits U := by unfold Lib.itoa; rw [if_pos h0, HU.out]
        have HI := Lib.hid hi
        have HBt := Lib.hid (HBs.out.setCell (p := ⟨w.heap.size, a - 1, none⟩) (Nat.le_refl _) (.int .u8 45))
        clear hi
        go_wp2_with fail
        go_ret
        exact ⟨by rw [HI.out]; rfl, HBt.out⟩
      · have hu0 : ¬ (u : Int) / 10 = 0 := by omega
        have ha3 : 2 ≤ a := by
          have := hp.out
          rcases (by omega : a = 1 ∨ 2 ≤ a) with rfl | h
          · simp at this; omega
          · exact h
        have HT := Lib.hid (hD.out.step hu)
        have hp2 : Hid (u / 10 < 10 ^ (a - 1)) := Lib.hid (by
          have := hp.out
          rw [show a = a - 1 + 1 from by omega, Nat.pow_succ] at this
          omega)
        go_wp2_with fail
        go_roundw
        case rel => exact ⟨a - 1, u / 10, by omega, by omega, by omega, by go_num, by go_num, hp2, Lib.hid (by have := HT.out; rw [show a - 1 + 1 = a from by omega]; exact this), Lib.hid (hB.out.setCell (Nat.le_refl _) _)⟩
        case measure => simp [intOf]; omega
  · obtain rfl := HW2.out h0
    go_wp2_with fail
    generalize hW1 : w.alloc _ = wa at HD HB ⊢
    clear hW1
    go_loopw [4, 5] (fun av uv wr => ∃ (a u : Nat), 1 ≤ a ∧ a ≤ 20 ∧ u ≤ U ∧ av = .int .i64 ((a : Int) + 1) ∧ uv = .int .u64 u ∧ Hid (u < 10 ^ a) ∧ Hid (DigAt w.heap.size U u (a + 1) wr) ∧ Hid (Below w.heap.size w wr))
      (fun _ uv _ => (intOf uv).toNat)
    case atStart => exact ⟨20, U, by omega, by omega, by omega, rfl, rfl, HP, HD, HB⟩
    case round =>
      obtain ⟨a, u, ha1, ha2, huU, rfl, rfl, hp, hD, hB⟩ := hrel
      obtain ⟨xk, b0, f0⟩ : ∃ xk, wr.cell? ⟨w.heap.size, a, none⟩ = some xk ∧ wr.frozen? ⟨w.heap.size, a, none⟩ = false := by
        obtain ⟨cs, suf, h1, h2, _⟩ := hD.out
        exact ⟨cs[a]'(by omega), by rw [(heapcell h1 a).1, Array.getElem?_eq_getElem (by omega)], (heapcell h1 a).2⟩
      by_cases hu : u < 10
      · have hu0 : (u : Int) / 10 = 0 := by omega
        have HT := Lib.hid (hD.out.last hu)
        have HBs := Lib.hid (hB.out.setCell (p := ⟨w.heap.size, a, none⟩) (Nat.le_refl _) (.int .u8 (48 + (u : Int) % 10)))
        have hs := slice113 w.heap.size a (by omega)
        have hcv := HT.out.conv _ rfl (21 - a) (21 - a) (by
          obtain ⟨cs, h1, h2, h3, h4⟩ := HT.out
          omega)
        have hi : Lib.itoa (U : Int) = Lib.decDigits U := by unfold Lib.itoa; rw [if_neg (by omega)]; rfl
        have HI := Lib.hid hi
        have HBt := HBs
        clear hi
        go_wp2_with fail
        go_ret
        exact ⟨by rw [HI.out]; rfl, HBt.out⟩
      · have hu0 : ¬ (u : Int) / 10 = 0 := by omega
        have ha3 : 2 ≤ a := by
          have := hp.out
          rcases (by omega : a = 1 ∨ 2 ≤ a) with rfl | h
          · simp at this; omega
          · exact h
        have HT := Lib.hid (hD.out.step hu)
        have hp2 : Hid (u / 10 < 10 ^ (a - 1)) := Lib.hid (by
          have := hp.out
          rw [show a = a - 1 + 1 from by omega, Nat.pow_succ] at this
          omega)
        go_wp2_with fail
        go_roundw
        case rel => exact ⟨a - 1, u / 10, by omega, by omega, by omega, by go_num, by go_num, hp2, Lib.hid (by have := HT.out; rw [show a - 1 + 1 = a from by omega]; exact this), Lib.hid (hB.out.setCell (Nat.le_refl _) _)⟩
        case measure => simp [intOf]; omega
end

section
open Go.RowKit
set_option maxRecDepth 100000
theorem LK.gc {base B : Nat} {w : World} {R : List Rw} {lv : Value} {z : Int} (h : LK base w B R lv z) :
    ∃ LV la lc, lv = .slice la R.length lc ∧ GC LV R la ∧ (0 < R.length → B ≠ LV) ∧ (∀ r ∈ R, r.1 ≠ B) ∧ (∀ g ∈ gwB LV R, base ≤ g) ∧ GX 1 9 61 LV R w (lenR R) (fun _ _ _ _ => True) w := by
  have hn := (nd2 _ _ _).1 h.nd
  have rr : ∀ (j : Nat) (r : Rw), R[j]? = some r → r.1 ≠ B ∧ lv.ownBlock ≠ some r.1 ∧ r.2.1 ≤ r.2.2 ∧ r.2.2 ≤ maxLen ∧ r.2.1 ≤ 70000 := fun j r hj => by
    have hm : r ∈ R := List.mem_of_getElem? hj
    have hmm : r.1 ∈ R.map (·.1) := List.mem_map.2 ⟨r, hm, rfl⟩
    obtain ⟨c, _, q1, q2, q3, _⟩ := h.m r hm
    exact ⟨fun e => hn.2.1 (e ▸ hmm), fun e => (hn.1 _ e).2 hmm, q1, q2, by omega⟩
  have hgw : ∀ LV (cl : 0 < R.length → ∃ cl : Array Value, w.heap[LV]? = some (.cells cl 61 (0, 0)) ∧ ∀ (j : Nat) (r : Rw), R[j]? = some r → cl[j]? = some (.slice (some ⟨r.1, 0, none⟩) (lenR R j) r.2.2)), GX 1 9 61 LV R w (lenR R) (fun _ _ _ _ => True) w := fun LV cl =>
    ⟨lenR R, fun j k q => (w.cell? ⟨(R.getD j (0, 0, 0)).1, k * 1 + q, none⟩).getD .nilIface, ⟨KBs.refl _ _, cl, fun j r hj => by
      obtain ⟨c, h1, h2, _⟩ := h.m r (List.mem_of_getElem? hj)
      refine ⟨c, h1, by rw [lenR_get hj]; exact h2, fun k hk q hq => ?_⟩
      rw [lenR_get hj] at hk
      rw [List.getD_eq_getElem?_getD, hj]
      have := (h1.cell (p := k * 1 + q) (by omega)).1
      simp only [Option.getD_some, this]⟩, fun _ _ _ => rfl, fun _ _ _ _ _ _ _ => trivial⟩
  rcases h.l.2 with ⟨rfl, h0⟩ | ⟨LV, lc, cl, rfl, hl1, hl2, hl3, hl4, hl5, hl6⟩
  · have hR : R = [] := List.length_eq_zero_iff.1 h0
    subst hR
    exact ⟨0, none, 0, rfl, ⟨fun h => by simp at h, by simp, fun j r hj => by simp at hj⟩, fun h => by simp at h, fun r hr => by simp at hr, fun g hg => by simp [gwB] at hg, hgw 0 (fun h => by simp at h)⟩
  · have q1 := hn.1 LV rfl
    refine ⟨LV, _, lc, rfl, ⟨fun _ => rfl, hn.2.2, fun j r hj => ?_⟩, fun _ e => q1.1 e.symm, fun r hr => ?_, fun g hg => ?_, hgw LV (fun h0 => ⟨cl, hl2, fun j r hj => ?_⟩)⟩
    · have := rr j r hj
      exact ⟨fun e => this.2.1 (by rw [e]; rfl), this.2.2⟩
    · obtain ⟨j, hj⟩ := List.getElem?_of_mem hr
      exact (rr j r hj).1
    · rcases mem_gwB.1 hg with ⟨_, e⟩ | ⟨r, hr, e⟩
      · rw [e]; exact hl1
      · rw [← e]; exact h.rb r hr
    · have : (R.map rowV)[j]? = some (rowV r) := by rw [List.getElem?_map, hj]; rfl
      rw [← hl6, List.getElem?_take] at this
      split at this
      · rw [lenR_get hj]; simpa [rowV] using this
      · cases this
/-- A list's mark. -/
def digV (j : Nat) : Value := .string ⟨(Lib.itoa (j : Int)).toArray⟩
/-- So far the lists are full of marks: all ahead of i, and of i so many. -/
def InvA (i n : Nat) (j k _q : Nat) (v : Value) : Prop := (j < i ∨ (j = i ∧ k < n)) → v = digV j
set_option maxHeartbeats 40000000 in
theorem apart_any (w : World) (base B : Nat) (R : List Rw) (lv : Value) (z : Int) (hbk : LK base w B R lv z) (hRl : R.length ≤ 6) :
    Calls Tryz.prog 20 #[.pointer (some ⟨B, 0, none⟩)] w fun e w' => e = .returned (.bool true) ∧ KBs (lkB B R lv) w w' := by
  obtain ⟨i9, hi9, _, hy1, _⟩ := info_parts info9
  have HI := Lib.hid (And.intro hi9 hy1)
  clear hi9 hy1
  obtain ⟨LV, la, lc, rfl, C, hLB, hrr, hgb, hgx⟩ := hbk.gc
  have hbc : ∀ {F : Nat → Nat} {Inv : Nat → Nat → Nat → Value → Prop} {wr : World}, GX 1 9 61 LV R w F Inv wr → wr.heap[B]? = some (.cells #[.slice la R.length lc, .int .i64 z] 43 (0, 0)) := fun h =>
    (h.other (hbk.lt B (mem_lkB.2 (.inl rfl))).2 hLB (fun r hr => hrr r hr)).trans hbk.c
  have hba : ∀ {F : Nat → Nat} {Inv : Nat → Nat → Nat → Value → Prop} {wr : World}, GX 1 9 61 LV R w F Inv wr → KBs (lkB B R (.slice la R.length lc)) w wr := fun h =>
    h.k.sub (fun g hg => .inl (by
      rcases mem_gwB.1 hg with ⟨h0, rfl⟩ | ⟨r, hr, rfl⟩
      · have := C.la h0
        subst this
        exact mem_lkB.2 (.inr (.inl rfl))
      · exact mem_lkB.2 (.inr (.inr ⟨r, hr, rfl⟩))))
  have HBC := @hbc
  have HBA := @hba
  have HC := Lib.hid C
  have HRR := Lib.hid hrr
  have HLB := Lib.hid hLB
  have HGX := Lib.hid hgx
  have hb0 := hbk.c
  clear hbk C hLB hrr hgb hgx hbc hba
  clear hb0
  go_enter Tryz.func20, Tryz.ntmps20
  go_wp2_with fail
  go_loopw [3] (fun iv wr => ∃ i : Nat, i ≤ R.length ∧ iv = .int .i64 i ∧ Hid (GX 1 9 61 LV R w (fA R i (lenR R i)) (InvA i 0) wr))
    (fun iv _ => R.length - (intOf iv).toNat)
  case atStart => exact ⟨0, by omega, rfl, Lib.hid (HGX.out.mono (fun j r hj => fA_start R j) (fun _ _ _ _ _ _ _ _ h => by omega))⟩
  case round =>
    obtain ⟨i, hi, rfl, HW⟩ := hrel
    obtain ⟨b0, _⟩ := heapcell (HBC HW.out) 0
    by_cases hlt : i < R.length
    · have hltI : (i : Int) < (R.length : Int) := by omega
      obtain ⟨r, hr⟩ : ∃ r, R[i]? = some r := ⟨R[i], List.getElem?_eq_getElem hlt⟩
      obtain rfl := HC.out.la (by omega)
      have x0 := (HW.out.cellL hr).1
      rw [fA_self, lenR_get hr] at x0
      have hend := end_le HC.out hr
      obtain ⟨_, r5, r6, r7⟩ := HC.out.rr i r hr
      have hcI : ((r.2.2 : Nat) : Int) ≤ 9223372036854775807 := by unfold maxLen at r6; omega
      have HRM : ∀ W, Hid (Calls Tryz.prog 36 #[.int .i64 (r.2.1 : Nat), .int .i64 (r.2.2 : Nat)] W fun e w' => e = .returned (.int .i64 (endR R i : Nat)) ∧ w' = W) := fun W => Lib.hid (by rw [hend.2.2]; exact room_any W _ _ (by omega))
      generalize hE : endR R i = E at hend HRM
      have HR := Lib.hid hr
      have HE := Lib.hid hE
      have HEN := Lib.hid (And.intro hend.1 hend.2.1)
      have hE7 : (E : Int) ≤ 140000 := by omega
      have h0 : Hid (GX 1 9 61 LV R w (fA R i r.2.1) (InvA i 0) wr.drew) := Lib.hid (by have := HW.out.drew; rw [lenR_get hr] at this; exact this)
      clear hr hE hend r5 r6 r7
      go_wp2_with fail
      go_still_tail 17, (by kernel_rfl)
      still_call (HRM _).out
      repeat still_step
      refine wpStill_nil ?_
      clear HRM
      go_wp2_with fail
      clear HW x0 b0
      go_loopw [] (fun wr => ∃ (c : Nat), r.2.1 ≤ c ∧ c ≤ E ∧ Hid (GX 1 9 61 LV R w (fA R i c) (InvA i 0) wr)) (fun wr => E - lenAt LV i wr)
      case atStart => exact ⟨r.2.1, by omega, HEN.out.1, h0⟩
      case round =>
        obtain ⟨c, hc1, hc2, HW⟩ := hrel
        obtain ⟨b0, _⟩ := heapcell (HBC HW.out) 0
        obtain ⟨x0, fx0⟩ := HW.out.cellL HR.out
        rw [fA_self] at x0
        have HLA := Lib.hid (lenAt_eq x0)
        by_cases hlt2 : c < E
        · have hcI : (c : Int) < (E : Int) := by omega
          have hlv := HW.out.lts HR.out
          have hBl : B < wr.heap.size := (Array.getElem?_eq_some_iff.1 (HBC HW.out)).1
          have r2' : LV ≠ r.1 := fun e => (HC.out.rr i r HR.out).1 e.symm
          have r1 : r.1 ≠ B := HRR.out r (List.mem_of_getElem? HR.out)
          have HROOM : Hid (c + 1 ≤ r.2.2) := Lib.hid (by have := HEN.out.2; omega)
          have HSP : ∀ o, Hid (((wr.alloc o).cell? ⟨r.1, c, none⟩).isSome = true ∧ (wr.alloc o).frozen? ⟨r.1, c, none⟩ = false) := fun o => Lib.hid (by
            obtain ⟨⟨v, hv⟩, hf⟩ := (HW.out.alloc o).cellR (p := c) HR.out (by have := HROOM.out; omega)
            exact ⟨by rw [hv]; rfl, hf⟩)
          have b0a : ∀ o, (wr.alloc o).cell? ⟨B, 0, none⟩ = some (.slice (some ⟨LV, 0, none⟩) R.length lc) := fun o => (heapcell (HBC (HW.out.alloc o)) 0).1
          have x0a : ∀ o, (wr.alloc o).cell? ⟨LV, i, none⟩ = some (.slice (some ⟨r.1, 0, none⟩) c r.2.2) := fun o => by
            have := ((HW.out.alloc o).cellL HR.out).1
            rwa [fA_self] at this
          have fx0a : ∀ o, (wr.alloc o).frozen? ⟨LV, i, none⟩ = false := fun o => ((HW.out.alloc o).cellL HR.out).2
          clear hlv hBl
          go_wp2_with fail
          go_region_law (refine step_append_one (by rfl) _ _ _ (by rfl) 9 i9 Tryz.underlying61 HI.out.1 HI.out.2 r.1 c r.2.2 (by rfl) ⟨wr.heap.size, 0, none⟩ 1 (.string ⟨#[]⟩) (by rfl) (one_new _ _ _) rfl HROOM.out (HSP _).out ?_)
          all_goals
            go_wp2_with fail
            have HG := Lib.hid (((HW.out.alloc (.cells #[.string ⟨#[]⟩] 9)).grow (Inv' := InvA i 0) (F' := fA R i (c + 1)) HC.out (by decide) HR.out (fA_self R i c) HROOM.out (fun _ => .string ⟨#[]⟩) (kbs_one (g := r.1) (k0 := c) (v := .string ⟨#[]⟩)) (fun c0 h => row_one h c _) (fA_next R i c) (fun _ _ _ _ _ h => h) (fun _ h => by omega)).drew)
            go_roundw
            case rel => exact ⟨c + 1, by omega, by omega, HG⟩
            case measure =>
              have h1 := lenAt_eq (HG.out.cellL HR.out).1
              rw [fA_self] at h1
              exact meas_lt h1 HLA.out hlt2
        · obtain rfl : c = E := by omega
          have hcI : ¬ ((c : Int) < (c : Int)) := by omega
          go_wp2_with fail
          refine (digits_any _ (i : Int) (by omega)).mono ?_
          rintro e w2 ⟨rfl, hb2⟩
          have HW2 := Lib.hid (HW.out.same hb2)
          clear hb2 x0 fx0 b0 HW HLA
          go_wp2_with fail
          go_loopw [6] (fun kv wr => ∃ k : Nat, k ≤ c ∧ kv = .int .i64 k ∧ Hid (GX 1 9 61 LV R w (fA R i c) (InvA i k) wr)) (fun kv _ => c - (intOf kv).toNat)
          case atStart => exact ⟨0, by omega, rfl, HW2⟩
          case round =>
            obtain ⟨k, hk, rfl, HW⟩ := hrel
            obtain ⟨b0, _⟩ := heapcell (HBC HW.out) 0
            obtain ⟨x0, fx0⟩ := HW.out.cellL HR.out
            rw [fA_self] at x0
            by_cases hlt3 : k < c
            · have hkI : (k : Int) < (c : Int) := by omega
              obtain ⟨⟨v0, g0⟩, e0⟩ := HW.out.cellR (p := k) HR.out (by have := HEN.out.2; omega)
              have HG := Lib.hid (HW.out.elem (Inv' := InvA i (k + 1)) HC.out (by decide) HR.out (k0 := k) (fun _ => digV i) (kbs_one (g := r.1) (k0 := k) (v := digV i)) (fun c0 h => row_one h k _) (fun j q _ v hn h hjk => h (by
                rcases hjk with h1 | ⟨h1, h2⟩
                · exact .inl h1
                · by_cases hq : q = k
                  · exact (hn ⟨h1, hq⟩).elim
                  · exact .inr ⟨h1, by omega⟩)) (fun _ _ => rfl))
              unfold digV at HG
              go_wp2_with fail
              go_roundw
              case rel => exact ⟨k + 1, by omega, by go_num, HG⟩
              case measure => simp [intOf]; omega
            · obtain rfl : k = c := by omega
              have hkI : ¬ ((k : Int) < (k : Int)) := by omega
              go_wp2_with fail
              go_roundw
              case rel =>
                refine ⟨i + 1, by omega, by go_num, Lib.hid (HW.out.mono (fun j r hj => by rw [fA_end, HE.out]) (fun j r hj q _ v hq h hjk => h ?_))⟩
                rcases hjk with h1 | ⟨_, h2⟩
                · by_cases h3 : j = i
                  · subst h3
                    rw [fA_self] at hq
                    exact .inr ⟨rfl, hq⟩
                  · exact .inl (by omega)
                · omega
              case measure => simp [intOf]; omega
    · obtain rfl : i = R.length := by omega
      have hltI : ¬ ((R.length : Int) < (R.length : Int)) := by omega
      have HW2 : Hid (GX 1 9 61 LV R w (endR R) (fun j _ _ v => v = digV j) wr) := Lib.hid (HW.out.mono (fun j r hj => (fA_done R _ hj).symm) (fun j r hj _ _ _ _ h => h (.inl (List.getElem?_eq_some_iff.1 hj).1)))
      clear HW
      go_wp2_with fail
      go_loopw [7] (fun iv wr => ∃ i : Nat, i ≤ R.length ∧ iv = .int .i64 i ∧ Hid (GX 1 9 61 LV R w (endR R) (fun j _ _ v => v = digV j) wr))
        (fun iv _ => R.length - (intOf iv).toNat)
      case atStart => exact ⟨0, by omega, rfl, HW2⟩
      case round =>
        obtain ⟨i, hi, rfl, HW⟩ := hrel
        obtain ⟨b0, _⟩ := heapcell (HBC HW.out) 0
        by_cases hlt : i < R.length
        · have hltI : (i : Int) < (R.length : Int) := by omega
          obtain ⟨r, hr⟩ : ∃ r, R[i]? = some r := ⟨R[i], List.getElem?_eq_getElem hlt⟩
          obtain rfl := HC.out.la (by omega)
          have HR := Lib.hid hr
          obtain ⟨E, hE⟩ : ∃ E, E = endR R i := ⟨_, rfl⟩
          have HE := Lib.hid hE
          have h8I : (E : Int) ≤ 140000 := by
            have := end_le HC.out hr
            have := (HC.out.rr i r hr).2.2.2
            omega
          clear hr hE
          go_wp2_with fail
          refine (digits_any _ (i : Int) (by omega)).mono ?_
          rintro e w2 ⟨rfl, hb2⟩
          have HW2 := Lib.hid (HW.out.same hb2)
          clear hb2 b0 HW
          go_wp2_with fail
          go_loopw [9] (fun kv' wr => ∃ k : Nat, k ≤ E ∧ kv' = .int .i64 k ∧ Hid (GX 1 9 61 LV R w (endR R) (fun j _ _ v => v = digV j) wr))
            (fun kv' _ => E - (intOf kv').toNat)
          case atStart => exact ⟨0, by omega, rfl, HW2⟩
          case round =>
            obtain ⟨k, hk, rfl, HW⟩ := hrel
            obtain ⟨b0, _⟩ := heapcell (HBC HW.out) 0
            have x0 := (HW.out.cellL HR.out).1
            rw [← HE.out] at x0
            by_cases hlt2 : k < E
            · have hkI : (k : Int) < (E : Int) := by omega
              obtain ⟨v, m0, e0⟩ := HW.out.cellM (k := k) (q := 0) HR.out (by rw [← HE.out]; exact hlt2) (by decide)
              rw [e0, Nat.mul_one, Nat.add_zero] at m0
              unfold digV at m0
              clear e0
              go_wp2_with fail
              go_roundw
              case rel => exact ⟨k + 1, by omega, by go_num, HW⟩
              case measure => simp [intOf]; omega
            · obtain rfl : k = E := by omega
              have hkI : ¬ (k : Int) < (k : Int) := by omega
              go_wp2_with fail
              go_roundw
              case rel => exact ⟨i + 1, by omega, by go_num, HW⟩
              case measure => simp [intOf]; omega
        · obtain rfl : i = R.length := by omega
          have hltI : ¬ ((R.length : Int) < (R.length : Int)) := by omega
          go_wp2_with fail
          go_ret
          exact ⟨rfl, HBA HW.out⟩
end
end Go.Proofs.YtlpgfdhihimjaaaGreat
