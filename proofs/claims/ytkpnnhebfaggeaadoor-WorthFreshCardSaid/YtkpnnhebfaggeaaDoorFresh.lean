/-
  The card of WorthFresh: lists of values are new memory in all their depth, spare room too.
  Conditions: none.
-/
import Derived.Test.YtkpnnhebfaggeaaDoorKitV
import Derived.Test.YtkpnnhebfaggeaaDoorKitU
import Derived.Test.YtkpnnhebfaggeaaDoorKitQ
import Derived.Test.YtkpnnhebfaggeaaDoorKitD
import Derived.Deep.CutRange
import Derived.Test.YtkpnnhebfaggeaaDoorKitS
import Derived.Test.YtkpnnhebfaggeaaDoorCards
import Derived.Test.YtkpnnhebfaggeaaDoorTie
namespace Go.Proofs.YtkpnnhebfaggeaaDoor
section
open Go.RowKit
set_option maxRecDepth 100000
theorem stepc4 {W w w' : World} {a0 a1 a2 a3 : Addr} {v0 v1 v2 v3 : Value} (h : w.cell? a0 = some v0 ∧ w.cell? a1 = some v1 ∧ w.cell? a2 = some v2 ∧ w.cell? a3 = some v3 ∧ Below W.heap.size W w) (hb : Below w.heap.size w w') :
    w'.cell? a0 = some v0 ∧ w'.cell? a1 = some v1 ∧ w'.cell? a2 = some v2 ∧ w'.cell? a3 = some v3 ∧ Below W.heap.size W w' := by
  obtain ⟨h0, h1, h2, h3, h'⟩ := h
  exact ⟨cell_stepA h0 hb, cell_stepA h1 hb, cell_stepA h2 hb, cell_stepA h3 hb, below_step h' hb⟩
theorem below_drew' {w w1 : World} (h : Below w.heap.size w w1) : Below w.heap.size w w1.drew := h.drew
theorem below_alloc' {w w1 : World} (h : Below w.heap.size w w1) (o : Obj) : Below w.heap.size w (w1.alloc o) := h.alloc h.size o
theorem below_set' {w w1 : World} {b j : Nat} (h : Below w.heap.size w w1) (hb : w.heap.size ≤ b) (v : Value) : Below w.heap.size w (w1.setCell ⟨b, j, none⟩ v) :=
  ⟨h.os, h.tape, h.output, by have := h.size; simpa [World.setCell] using this, fun g hg => (heap_set_ne v (by omega)).trans (h.block g hg)⟩
theorem t16_a {w w2 X : World} {o : Obj} {C : Array Value} (hb : Below X.heap.size X w2) (hX : X.heap = ((w.alloc o).alloc (.cells C 24)).heap) : w2.heap[w.heap.size + 1]? = some (.cells C 24 (0, 0)) := by
  have h := heap_alloc_new (w.alloc o) (.cells C 24)
  rw [show (w.alloc o).heap.size = w.heap.size + 1 from by simp] at h
  rw [hb.block _ (by rw [hX]; simp), hX]
  exact h
theorem t16_b {w w2 X : World} {o : Obj} {C : Array Value} (hb : Below X.heap.size X w2) (hX : X.heap = ((w.alloc (.cells C 24)).alloc o).heap) : w2.heap[w.heap.size]? = some (.cells C 24 (0, 0)) := by
  rw [hb.block _ (by rw [hX]; simp; omega), hX, Below.heap_alloc _ _ _ (by simp)]
  exact heap_alloc_new w _
theorem t16_c {w w2 X : World} {C : Array Value} (hb : Below X.heap.size X w2) (hX : X.heap = (w.alloc (.cells C 24)).heap) : w2.heap[w.heap.size]? = some (.cells C 24 (0, 0)) := by
  rw [hb.block _ (by rw [hX]; simp), hX]
  exact heap_alloc_new w _
theorem set4 {w : World} {b : Nat} {a0 a1 a2 a3 : Value} {t : TypeId} (h : w.heap[b]? = some (.cells #[a0, a1, a2, a3] t (0, 0))) (v0 v1 v2 v3 : Value) :
    ((((w.setCell ⟨b, 0, none⟩ v0).setCell ⟨b, 1, none⟩ v1).setCell ⟨b, 2, none⟩ v2).setCell ⟨b, 3, none⟩ v3).heap[b]? = some (.cells #[v0, v1, v2, v3] t (0, 0)) :=
  heap_set (heap_set (heap_set (heap_set h v0) v1) v2) v3
theorem set4_ne {w : World} {b g : Nat} {v0 v1 v2 v3 : Value} {o : Option Obj} (hg : g ≠ b) (h : w.heap[g]? = o) : ((((w.setCell ⟨b, 0, none⟩ v0).setCell ⟨b, 1, none⟩ v1).setCell ⟨b, 2, none⟩ v2).setCell ⟨b, 3, none⟩ v3).heap[g]? = o := by
  rw [heap_set_ne _ hg, heap_set_ne _ hg, heap_set_ne _ hg, heap_set_ne _ hg]; exact h
theorem alloc_keep {w : World} {o o' : Obj} {g : Nat} (h : w.heap[g]? = some o') : (w.alloc o).heap[g]? = some o' := (Below.heap_alloc w _ _ (Array.getElem?_eq_some_iff.1 h).1).trans h
def PairAt (w11 : World) (a b c d : Value) (s16 : Value) (wx : World) : Prop := ∃ T16 PB, s16 = .pointer (some ⟨T16, 0, none⟩) ∧ Below w11.heap.size w11 wx ∧ wx.heap[T16]? = some (.cells #[.int .i64 5, .int .i64 0, .string ⟨#[]⟩, .slice (some ⟨PB, 0, none⟩) 2 2] 24 (0, 0)) ∧
  wx.heap[PB]? = some (.cells #[a, b, c, d, a, b, c, d] 24 (0, 0)) ∧ w11.heap.size ≤ T16 ∧ w11.heap.size ≤ PB
theorem S4 {W w' : World} {a0 a1 a2 a3 : Addr} {v0 v1 v2 v3 : Value} (h0 : W.cell? a0 = some v0) (h1 : W.cell? a1 = some v1) (h2 : W.cell? a2 = some v2) (h3 : W.cell? a3 = some v3) (hb : Below W.heap.size W w') :
    w'.cell? a0 = some v0 ∧ w'.cell? a1 = some v1 ∧ w'.cell? a2 = some v2 ∧ w'.cell? a3 = some v3 ∧ Below W.heap.size W w' := ⟨cell_stepA h0 hb, cell_stepA h1 hb, cell_stepA h2 hb, cell_stepA h3 hb, hb⟩
theorem and5 {a1 a2 a3 a4 b : Prop} (h : a1 ∧ a2 ∧ a3 ∧ a4 ∧ b) : b := h.2.2.2.2
theorem may_allM {p : PT} (h : mayP p = true) : allMay [p, p] = true := by simp [allMay, h]
theorem eight_cells (w : World) (a b c d : Value) : ∀ j v, ([a, b, c, d] ++ [a, b, c, d])[j]? = some v → (w.alloc (.cells #[a, b, c, d, a, b, c, d] 24)).cell? ⟨w.heap.size, j, none⟩ = some v := by
  intro j v hv
  rw [cell_of_row _ _ j _ _ _ (heap_alloc_new w _)]
  simpa using hv
theorem pair_in2 {w : World} {p : PT} {cs : List Value} {b : Nat} (h : CsP w p cs) (h4 : cs.length = 4) (hc : ∀ j v, (cs ++ cs)[j]? = some v → w.cell? ⟨b, j, none⟩ = some v) : InPs w b 0 [p, p] :=
  ⟨h.inP (fun j v hv => by rw [Nat.zero_add]; exact hc j v (left_get hv)), h.inP (fun j v hv => by
    have := hc (4 + j) v (by rw [List.getElem?_append_right (by omega), h4, Nat.add_sub_cancel_left]; exact hv)
    simpa using this), trivial⟩
theorem pair_slp {w : World} {p : PT} {a b c d : Value} (h : ArgP w p (.agg #[a, b, c, d])) : SlP (w.alloc (.cells #[a, b, c, d, a, b, c, d] 24)) [p, p] (.slice (some ⟨w.heap.size, 0, none⟩) 2 2) := by
  have hc : CsP (w.alloc (.cells #[a, b, c, d, a, b, c, d] 24)) p [a, b, c, d] := by
    have h' := h.below (alloc_below w (.cells #[a, b, c, d, a, b, c, d] 24))
    cases p with
    | mk k n s l =>
      obtain ⟨h1, h2, la, lc, e, h4⟩ := h'
      simp only [Value.agg.injEq, Array.mk.injEq, List.cons.injEq, and_true] at e
      obtain ⟨rfl, rfl, rfl, rfl⟩ := e
      exact ⟨h1, h2, la, lc, rfl, h4⟩
  exact ⟨by simp, _, 2, rfl, fun _ => ⟨_, 0, rfl, pair_in2 hc rfl (eight_cells w a b c d)⟩⟩
theorem ArgP.cs {w : World} {p : PT} {a b c d : Value} (h : ArgP w p (.agg #[a, b, c, d])) : CsP w p [a, b, c, d] := by
  cases p with
  | mk k n s l =>
    obtain ⟨h1, h2, la, lc, e, h4⟩ := h
    simp only [Value.agg.injEq, Array.mk.injEq, List.cons.injEq, and_true] at e
    obtain ⟨rfl, rfl, rfl, rfl⟩ := e
    exact ⟨h1, h2, la, lc, rfl, h4⟩
/-- A pair of one plain value of the old memory, in a new block. -/
theorem pair_want {w wc : World} {p : PT} {a b c d : Value} {PB : Nat} (h : CsP w p [a, b, c, d]) (hB : Below w.heap.size w wc) (hp : wc.heap[PB]? = some (.cells #[a, b, c, d, a, b, c, d] 24 (0, 0))) :
    WantP w.heap.size wc (.mk 5 0 ⟨#[]⟩ [p, p]) [.int .i64 5, .int .i64 0, .string ⟨#[]⟩, .slice (some ⟨PB, 0, none⟩) 2 2] [PB] := by
  refine ⟨fun w' hk => ?_, fun g hg => ?_⟩
  · have hc : CsP w' p [a, b, c, d] := h.old (fun g hg => (hk g (.inl hg)).trans (hB.block g hg))
    refine ⟨by decide, by simp, some ⟨PB, 0, none⟩, 2, rfl, fun _ => ⟨PB, 0, rfl, pair_in2 hc rfl (fun j v hv => ?_)⟩⟩
    rw [(heapcell ((hk PB (.inr (by simp))).trans hp) j).1]
    simpa using hv
  · have : g = PB := by simpa using hg
    subst this
    exact (Array.getElem?_eq_some_iff.1 hp).1
/-- What a round's tail leans on. -/
structure RT (w wz : World) (N T : Nat) (qv pv : Value) (ts : List VT) (qs : List Value) (bq : List Nat) (xs : List Value) (bw : List Nat) (p : PT) (va vb : Value) (ba bb bt : List Nat) (hc : Array Value) (cs : List Value) : Prop where
  bl : Below w.heap.size w wz
  fi : FI N wz qv pv ts qs bq (plainsOf ts) xs bw
  ra : RepV wz (valOf p) va ba
  na : ba.Nodup
  rb : RepV wz (valOf p) vb bb
  ca : FI.clear qv pv bq bw ba N
  cb : FI.clear qv pv bq bw bb N
  tw : TwP wz p cs bt
  t7 : wz.heap[T]? = some (.cells hc 24 (0, 0))
  ta : T ∉ ba ∧ (∀ g ∈ bt, g ∉ ba) ∧ (∀ g ∈ bb, g ∉ ba)
theorem TwP.below {w w' : World} (hb : Below w.heap.size w w') {p : PT} {cs : List Value} {bs : List Nat} (h : TwP w p cs bs) : TwP w' p cs bs := TwP.keep _ _ _ (fun g hg => hb.block g (TwP.lt _ _ _ h g hg)) h
theorem old_want {w wc : World} {p : PT} {cs : List Value} (h : CsP w p cs) (hB : Below w.heap.size w wc) : WantP w.heap.size wc p cs [] :=
  ⟨fun w' hk => h.old (fun g hg => (hk g (.inl hg)).trans (hB.block g hg)), by simp⟩
theorem S8 {W w' : World} {a0 a1 a2 a3 b0 b1 b2 b3 : Addr} {v0 v1 v2 v3 u0 u1 u2 u3 : Value} (h0 : W.cell? a0 = some v0) (h1 : W.cell? a1 = some v1) (h2 : W.cell? a2 = some v2) (h3 : W.cell? a3 = some v3) (g0 : W.cell? b0 = some u0) (g1 : W.cell? b1 = some u1) (g2 : W.cell? b2 = some u2) (g3 : W.cell? b3 = some u3) (hb : Below W.heap.size W w') :
    w'.cell? a0 = some v0 ∧ w'.cell? a1 = some v1 ∧ w'.cell? a2 = some v2 ∧ w'.cell? a3 = some v3 ∧ w'.cell? b0 = some u0 ∧ w'.cell? b1 = some u1 ∧ w'.cell? b2 = some u2 ∧ w'.cell? b3 = some u3 ∧ Below W.heap.size W w' :=
  ⟨cell_stepA h0 hb, cell_stepA h1 hb, cell_stepA h2 hb, cell_stepA h3 hb, cell_stepA g0 hb, cell_stepA g1 hb, cell_stepA g2 hb, cell_stepA g3 hb, hb⟩
theorem plainsOf_get : ∀ (l : List VT) (i : Nat) (h : i < l.length) (h' : i < (plainsOf l).length), (plainsOf l)[i] = plainOf l[i]
  | t :: r, 0, h, h' => rfl
  | t :: r, i + 1, h, h' => by
    simp only [plainsOf, List.getElem_cons_succ]
    exact plainsOf_get r i (by simpa using h) (by simpa [plainsOf] using h')
theorem S5 {W w' : World} {a0 a1 a2 a3 b0 : Addr} {v0 v1 v2 v3 u0 : Value} (h0 : W.cell? a0 = some v0) (h1 : W.cell? a1 = some v1) (h2 : W.cell? a2 = some v2) (h3 : W.cell? a3 = some v3) (g0 : W.cell? b0 = some u0) (hb : Below W.heap.size W w') :
    w'.cell? a0 = some v0 ∧ w'.cell? a1 = some v1 ∧ w'.cell? a2 = some v2 ∧ w'.cell? a3 = some v3 ∧ w'.cell? b0 = some u0 ∧ Below W.heap.size W w' :=
  ⟨cell_stepA h0 hb, cell_stepA h1 hb, cell_stepA h2 hb, cell_stepA h3 hb, cell_stepA g0 hb, hb⟩
theorem and6 {a1 a2 a3 a4 a5 b : Prop} (h : a1 ∧ a2 ∧ a3 ∧ a4 ∧ a5 ∧ b) : b := h.2.2.2.2.2
theorem plainsOf_app : ∀ (a : List VT) (t : VT), plainsOf (a ++ [t]) = plainsOf a ++ [plainOf t]
  | [], t => rfl
  | x :: r, t => by simp only [List.cons_append, plainsOf, plainsOf_app r t]
/-- Behind a push upon the first list. -/
theorem clear_push {qv pv qv' pv' : Value} {bq bw bq' bw' bs : List Nat} {N : Nat} (h : FI.clear qv pv bq bw bs N) (hq : ∀ g ∈ bs, g ∉ bq') (hw : ∀ g ∈ bs, g ∉ bw')
    (h1 : ∀ g ∈ bs, qv'.ownBlock = some g → qv.ownBlock = some g) (h2 : ∀ g ∈ bs, pv'.ownBlock = some g → pv.ownBlock = some g) : FI.clear qv' pv' (bq ++ bq') (bw ++ bw') bs N := fun g hg => by
  obtain ⟨a, b, c, d, e⟩ := h g hg
  refine ⟨a, fun hm => ?_, fun hm => ?_, fun e' => d (h1 g hg e'), fun e' => e (h2 g hg e')⟩
  · rcases List.mem_append.1 hm with hm | hm
    · exact b hm
    · exact hq g hg hm
  · rcases List.mem_append.1 hm with hm | hm
    · exact c hm
    · exact hw g hg hm
def JUni (q : PT) (w : World) (cv : Value) (bc : List Nat) (w' : World) : Prop := mayP q = true → (∃ ty u, cv = .iface ty u) ∧ RepV w' (valOf q) cv bc ∧ bc.Nodup ∧ ∀ g ∈ bc, w.heap.size ≤ g
theorem join_uni {p : PT} {w w' : World} {e : Ending} (hm : mayP p = true) (h : JoinR [p, p] w e w') : ∃ cv ce bc, e = .returned (.tuple #[cv, .int .i64 ce]) ∧ Below w.heap.size w w' ∧ JUni (.mk 5 0 ⟨#[]⟩ [p, p]) w cv bc w' := by
  obtain ⟨_, h2, h3⟩ := h
  cases hq : mayP (.mk 5 0 ⟨#[]⟩ [p, p])
  · obtain ⟨he, hb⟩ := h2 (may_allM hm) hq
    exact ⟨_, _, [], he, hb, fun e => by rw [hq] at e; cases e⟩
  · obtain ⟨v, bs, he, hv, hn, hg, hb⟩ := h3 hq
    exact ⟨v, _, bs, he, hb, fun _ => ⟨hv.iface, hv, hn, hg⟩⟩
set_option maxHeartbeats 8000000 in
theorem law_fresh (l : List PT) (w : World) (v : Value) (hv : SlP w l v) (hbeg : ∀ W, Below w.heap.size w W → Calls Tryd.prog 8 #[] W (RetB W (.bool true))) : Calls Tryd.prog 7 #[v] w (RetB w (.bool true)) := by
  have g := hv
  obtain ⟨hln, la, lc, rfl, hla⟩ := g
  have HA := Lib.hid hla
  have HBG := Lib.hid hbeg
  clear hv hla hbeg
  obtain ⟨i24, hi24, hz0, hz1, hz2⟩ := info_parts info24
  have HZ1 := Lib.hid hz1; clear hz1
  have HZ2 := Lib.hid hz2; clear hz2
  have HZ0 := Lib.hid hz0; clear hz0
  have HI24 := Lib.hid hi24; clear hi24
  obtain ⟨i30, hi30, hy0, hy1, hy2⟩ := info_parts info30
  have HY1 := Lib.hid hy1; clear hy1
  have HY2 := Lib.hid hy2; clear hy2
  have HY0 := Lib.hid hy0; clear hy0
  have HI30 := Lib.hid hi30; clear hi30
  go_enter Tryd.func7, Tryd.ntmps7
  go_wp2_with fail
  refine (HBG.out w (Below.refl _ _)).mono ?_
  rintro e w1 ⟨rfl, hb0⟩
  have HB0 := Lib.hid hb0
  have HFI : Hid (FI w.heap.size w1 (.slice none 0 0) (.slice none 0 0) [] [] [] (plainsOf []) [] []) := Lib.hid ⟨hb0.size, ⟨rfl, .inl ⟨rfl, rfl⟩⟩, ⟨rfl, rfl⟩, ⟨rfl, .inl ⟨rfl, rfl⟩⟩, ⟨rfl, rfl⟩, by simp, by simp [Value.ownBlock], by simp [Value.ownBlock]⟩
  clear hb0 HBG
  obtain ⟨N, hN⟩ : ∃ N, N = w.heap.size := ⟨_, rfl⟩
  simp only [← hN] at HFI
  have HN := Lib.hid hN
  clear hN
  go_wp2_with fail
  go_loopw [3, 4, 5, 6] (fun qv pv zv iv wr => ∃ (i : Nat) (z : Int) (ts : List VT) (qs : List Value) (bq : List Nat) (xs : List Value) (bw : List Nat), i ≤ l.length ∧ i ≤ 50 ∧ iv = .int .i64 i ∧ zv = .int .i64 z ∧ 0 ≤ z ∧ z ≤ i * 65536 ∧ ts.length ≤ 2 * i ∧
      Hid (Below w.heap.size w wr) ∧ Hid (FI N wr qv pv ts qs bq (plainsOf ts) xs bw))
    (fun _ _ _ iv _ => l.length - (intOf iv).toNat)
  case atStart => exact ⟨0, 0, [], [], [], [], [], by omega, by omega, rfl, rfl, by omega, by omega, by simp, HB0, HFI⟩
  case round =>
    obtain ⟨i, z, ts, qs, bq, xs, bw, hi, hi50, rfl, rfl, hz0, hz1, hts, hB, hF⟩ := hrel
    by_cases hlt : i < l.length
    · by_cases h50 : i < 50
      · obtain ⟨b', o', rfl, hin⟩ := HA.out (by intro h; subst h; simp at hlt)
        have hp := InPs.get l b' o' i hlt hin
        rw [Nat.mul_comm] at hp
        obtain ⟨k1, n1, s1, la1, lc1, l1, e1, ⟨x0, x1, x2, x3⟩, hx⟩ := arg_of_in hp
        have HCS := Lib.hid (ArgP.cs hx)
        have HXC := Lib.hid (And.intro x0 (And.intro x1 (And.intro x2 x3)))
        have HXW := Lib.hid hx
        have x0 := cell_stepA x0 hB.out
        have x1 := cell_stepA x1 hB.out
        have x2 := cell_stepA x2 hB.out
        have x3 := cell_stepA x3 hB.out
        have HX := Lib.hid (hx.below hB.out)
        have HIN := Lib.hid hin
        have hsz : 0 ≤ sizeP l[i] ∧ sizeP l[i] ≤ 65536 := by
          cases hm : mayP l[i]
          · rw [sizeP_zero _ hm]; omega
          · have := sizeP_pos _ hm; omega
        have h50I : (i : Int) < 50 := by omega
        clear hp hx e1 hin
        go_wp2_with fail
        refine (rsize_any l[i] _ _ HX.out).mono ?_
        rintro e w2 ⟨rfl, hb2⟩
        have x0 := cell_stepA x0 hb2
        have x1 := cell_stepA x1 hb2
        have x2 := cell_stepA x2 hb2
        have x3 := cell_stepA x3 hb2
        have HX2 := Lib.hid (HX.out.below hb2)
        have HB2 := Lib.hid (hB.out.trans (hb2.mono hB.out.size))
        have HF2 := Lib.hid (hF.out.below hb2)
        clear hb2
        obtain ⟨hs0, hs1⟩ := hsz
        generalize hzz : sizeP l[i] = y at hs0 hs1 ⊢
        clear hzz
        by_cases hbig : 200000 < z + y
        · go_wp2_with fail
          go_roundw
          case rel => exact ⟨i + 1, z + y, ts, qs, bq, xs, bw, by omega, by omega, by go_num, by go_num, by omega, by omega, by omega, HB2, HF2⟩
          case measure => simp [intOf]; omega
        · cases hm : mayP l[i]
          · have HM := Lib.hid hm
            clear hm
            go_wp2_with fail
            refine (rmay_any l[i] _ _ HX2.out).mono ?_
            rintro e w3 ⟨rfl, hb3⟩
            rw [HM.out]
            have HB3 := Lib.hid (HB2.out.trans (hb3.mono HB2.out.size))
            have HF3 := Lib.hid (HF2.out.below hb3)
            clear hb3
            go_wp2_with fail
            go_roundw
            case rel => exact ⟨i + 1, z + y, ts, qs, bq, xs, bw, by omega, by omega, by go_num, by go_num, by omega, by omega, by omega, HB3, HF3⟩
            case measure => simp [intOf]; omega
          · have HM := Lib.hid hm
            clear hm
            go_wp2_with fail
            refine (rmay_any l[i] _ _ HX2.out).mono ?_
            rintro e w3 ⟨rfl, hb3⟩
            rw [HM.out]
            have HB3 := Lib.hid (HB2.out.trans (hb3.mono HB2.out.size))
            have HF3 := Lib.hid (HF2.out.below hb3)
            have x0 := cell_stepA x0 hb3
            have x1 := cell_stepA x1 hb3
            have x2 := cell_stepA x2 hb3
            have x3 := cell_stepA x3 hb3
            have HX3 := Lib.hid (HX2.out.below hb3)
            clear hb3
            go_wp2_with fail
            refine (tw_any l[i] w3 _ HX3.out (may_short _ 65536 0 (by omega) HM.out)).mono ?_
            rintro e w4 ⟨cs4, bt, rfl, htw, hgt, hb4⟩
            obtain ⟨k9, n9, s9, la9, ln9, lc9, rfl⟩ := htw.form
            have HTW := Lib.hid htw
            have HGT := Lib.hid hgt
            have HB4 := Lib.hid (HB3.out.trans (hb4.mono HB3.out.size))
            have HF4 := Lib.hid (HF3.out.below hb4)
            have x0 := cell_stepA x0 hb4
            have x1 := cell_stepA x1 hb4
            have x2 := cell_stepA x2 hb4
            have x3 := cell_stepA x3 hb4
            have HX4 := Lib.hid (HX3.out.below hb4)
            have HSZ4 := Lib.hid hb4.size
            clear htw hgt hb4
            go_wp2_with fail
            have ht7 := heap_alloc_new w4 (.cells #[.int .i64 k9, .int .i64 n9, .string s9, .slice la9 ln9 lc9] 24)
            have hb5 := alloc_below w4 (.cells #[.int .i64 k9, .int .i64 n9, .string s9, .slice la9 ln9 lc9] 24)
            have hsz5 : (w4.alloc (.cells #[.int .i64 k9, .int .i64 n9, .string s9, .slice la9 ln9 lc9] 24)).heap.size = w4.heap.size + 1 := by simp
            generalize (w4.alloc (.cells #[.int .i64 k9, .int .i64 n9, .string s9, .slice la9 ln9 lc9] 24)) = w5 at ht7 hb5 hsz5 ⊢
            obtain ⟨T, hT⟩ : ∃ T, T = w4.heap.size := ⟨_, rfl⟩
            rw [← hT] at ht7 hsz5 ⊢
            have HT := Lib.hid hT
            have HT7 := Lib.hid ht7
            have HS5 := Lib.hid hsz5
            have HTW5 := Lib.hid (TwP.keep (w' := w5) _ _ _ (fun b hb => hb5.block b (TwP.lt _ _ _ HTW.out b hb)) HTW.out)
            have HB5 := Lib.hid (HB4.out.trans (hb5.mono HB4.out.size))
            have HF5 := Lib.hid (HF4.out.below hb5)
            have x0 := cell_stepA x0 hb5
            have x1 := cell_stepA x1 hb5
            have x2 := cell_stepA x2 hb5
            have x3 := cell_stepA x3 hb5
            have HX5 := Lib.hid (HX4.out.below hb5)
            clear hT ht7 hb5 hsz5
            refine (of_yes l[i] w5 _ HTW5.out.arg HM.out).mono ?_
            rintro e w6 ⟨va, ba, rfl, hva, hnda, hgea, hb6⟩
            obtain ⟨tya, ua, rfl⟩ := hva.iface
            have HVA := Lib.hid hva
            have HNA := Lib.hid hnda
            have HGA := Lib.hid hgea
            have HB65 := Lib.hid hb6
            have h7 := (hb6.block T (by have := HS5.out; omega)).trans HT7.out
            obtain ⟨y0, _⟩ := heapcell h7 0
            obtain ⟨y1, _⟩ := heapcell h7 1
            obtain ⟨y2, _⟩ := heapcell h7 2
            obtain ⟨y3, _⟩ := heapcell h7 3
            clear hva hnda hgea hb6 h7
            go_wp2_with fail
            refine (of_yes l[i] w6 _ (HTW5.out.arg.below HB65.out) HM.out).mono ?_
            rintro e w7 ⟨vb, bb, rfl, hvb, hndb, hgeb, hb7⟩
            obtain ⟨tyb, ub, rfl⟩ := hvb.iface
            have HVB := Lib.hid hvb
            have HNB := Lib.hid hndb
            have HGB := Lib.hid hgeb
            have HB75 := Lib.hid (HB65.out.trans (hb7.mono HB65.out.size))
            have HB76 := Lib.hid hb7
            have y0 := cell_stepA y0 hb7
            have y1 := cell_stepA y1 hb7
            have y2 := cell_stepA y2 hb7
            have y3 := cell_stepA y3 hb7
            clear hvb hndb hgeb hb7
            go_wp2_with fail
            refine (join_any [l[i], l[i]] _ _ (pair_slp (HTW5.out.arg.below HB75.out))).mono ?_
            intro e w8 hj
            obtain ⟨cv, ce, bc, rfl, hb8, hjc⟩ := join_uni HM.out hj
            have hb87 := (alloc_below w7 (.cells #[.int .i64 k9, .int .i64 n9, .string s9, .slice la9 ln9 lc9, .int .i64 k9, .int .i64 n9, .string s9, .slice la9 ln9 lc9] 24)).trans (hb8.mono (by simp))
            have HJC := Lib.hid hjc
            have HB87 := Lib.hid hb87
            have HB85 := Lib.hid (HB75.out.trans (hb87.mono HB75.out.size))
            have y0 := cell_stepA y0 hb87
            have y1 := cell_stepA y1 hb87
            have y2 := cell_stepA y2 hb87
            have y3 := cell_stepA y3 hb87
            clear hj hb8 hb87 hjc
            go_wp2_with fail
            refine (join_any [l[i], l[i]] _ _ (pair_slp (HTW5.out.arg.below HB85.out))).mono ?_
            intro e w9 hj
            obtain ⟨dv, de, bd, rfl, hb9, hjd⟩ := join_uni HM.out hj
            have hb98 := (alloc_below w8 (.cells #[.int .i64 k9, .int .i64 n9, .string s9, .slice la9 ln9 lc9, .int .i64 k9, .int .i64 n9, .string s9, .slice la9 ln9 lc9] 24)).trans (hb9.mono (by simp))
            have HJD := Lib.hid hjd
            have HB98 := Lib.hid hb98
            have HB95 := Lib.hid (HB85.out.trans (hb98.mono HB85.out.size))
            have y0 := cell_stepA y0 hb98
            have y1 := cell_stepA y1 hb98
            have y2 := cell_stepA y2 hb98
            have y3 := cell_stepA y3 hb98
            have x0 := cell_stepA x0 HB95.out
            have x1 := cell_stepA x1 HB95.out
            have x2 := cell_stepA x2 HB95.out
            have x3 := cell_stepA x3 HB95.out
            have HX9 := Lib.hid (HX5.out.below HB95.out)
            have HVA9 := Lib.hid (RepV.keep (w' := w9) _ _ _ (fun b hb => by
              have hl := RepV.lt _ _ _ HVA.out b hb
              rw [HB98.out.block b (by have := HB87.out.size; have := HB76.out.size; omega), HB87.out.block b (by have := HB76.out.size; omega), HB76.out.block b hl]) HVA.out)
            have HVB9 := Lib.hid (RepV.keep (w' := w9) _ _ _ (fun b hb => by
              have hl := RepV.lt _ _ _ HVB.out b hb
              rw [HB98.out.block b (by have := HB87.out.size; omega), HB87.out.block b hl]) HVB.out)
            obtain ⟨m1, m2, m3, m4⟩ := may_plain l[i] 65536 0 (by omega) (by omega) HM.out
            have m5 := meas_bd l[i] 65536 0 HM.out
            have HMP := Lib.hid m1
            have HSM : Hid (nodesV (valOf l[i]) ≤ 70000 ∧ depV (valOf l[i]) ≤ 70 ∧ txtV (valOf l[i])) := Lib.hid ⟨by omega, by omega, m4⟩
            clear hj hb9 hb98 hjd m1 m2 m3 m4 m5
            go_wp2_with fail
            refine (is_any (valOf l[i]) l[i] w9 _ _ ba HVA9.out HMP.out HX9.out HSM.out.1 HSM.out.2.1 HSM.out.2.2).mono ?_
            rintro e w10 ⟨rfl, hb10⟩
            have HB109 := Lib.hid hb10
            have x0 := cell_stepA x0 hb10
            have x1 := cell_stepA x1 hb10
            have x2 := cell_stepA x2 hb10
            have x3 := cell_stepA x3 hb10
            have y0 := cell_stepA y0 hb10
            have y1 := cell_stepA y1 hb10
            have y2 := cell_stepA y2 hb10
            have y3 := cell_stepA y3 hb10
            have HX10 := Lib.hid (HX9.out.below hb10)
            have HVB10 := Lib.hid (RepV.keep (w' := w10) _ _ _ (fun b hb => hb10.block b (RepV.lt _ _ _ HVB9.out b hb)) HVB9.out)
            clear hb10
            go_wp2_with fail
            refine (is_any (valOf l[i]) l[i] w10 _ _ bb HVB10.out HMP.out HX10.out HSM.out.1 HSM.out.2.1 HSM.out.2.2).mono ?_
            rintro e w11 ⟨rfl, hb11⟩
            have HB119 := Lib.hid (HB109.out.trans (hb11.mono HB109.out.size))
            have x0 := cell_stepA x0 hb11
            have x1 := cell_stepA x1 hb11
            have x2 := cell_stepA x2 hb11
            have x3 := cell_stepA x3 hb11
            have y0 := cell_stepA y0 hb11
            have y1 := cell_stepA y1 hb11
            have y2 := cell_stepA y2 hb11
            have y3 := cell_stepA y3 hb11
            have HX11 := Lib.hid (HX10.out.below hb11)
            clear hb11
            go_wp2_with fail
            go_cut [16] from 92 to 101 (fun s16 wx => PairAt w11 (.int .i64 k1) (.int .i64 n1) (.string s1) (.slice la1 l1.length lc1) s16 wx)
            case first =>
              have hBd : Below w11.heap.size w11 w11.drew := (Below.refl _ _).drew
              go_region_held3 (fun w' => w'.cell? ⟨b', o' + i * 4, none⟩ = some (.int .i64 k1) ∧ w'.cell? ⟨b', o' + i * 4 + 1, none⟩ = some (.int .i64 n1) ∧ w'.cell? ⟨b', o' + i * 4 + 2, none⟩ = some (.string s1) ∧ w'.cell? ⟨b', o' + i * 4 + 3, none⟩ = some (.slice la1 l1.length lc1) ∧ Below w11.heap.size w11 w')
                (first | exact ⟨x0, x1, x2, x3, hBd⟩ | (refine S4 x0 x1 x2 x3 ?_; repeat (first | exact hBd | exact Below.refl _ _ | refine below_step ?_ hb | refine below_drew' ?_ | refine below_alloc' ?_ _ | refine below_set' ?_ ?_ _ | omega)) | assumption)
                (first | (go_at_call 18; ((with_reducible refine (listp_any _ _ _ _).mono ?_); rintro e w12 ⟨rfl, hb⟩; first | (have hz := t16_a (w := w11) (C := #[.int .i64 0, .int .i64 0, .string ⟨#[]⟩, .slice none 0 0]) hb rfl; obtain ⟨p0, f0⟩ := heapcell hz 0; obtain ⟨p1, f1⟩ := heapcell hz 1; obtain ⟨p2, f2⟩ := heapcell hz 2; obtain ⟨p3, f3⟩ := heapcell hz 3) | (have hz := t16_b (w := w11) (C := #[.int .i64 0, .int .i64 0, .string ⟨#[]⟩, .slice none 0 0]) hb rfl; obtain ⟨p0, f0⟩ := heapcell hz 0; obtain ⟨p1, f1⟩ := heapcell hz 1; obtain ⟨p2, f2⟩ := heapcell hz 2; obtain ⟨p3, f3⟩ := heapcell hz 3) | skip)))
              all_goals
                clear HX HX2 HX3 HX4 HX5 HX9 HX10 HX11 HVA HVA9 HVB HVB9 HVB10 HTW HTW5 HF2 HF3 HF4 HF5 HJC HJD
                go_wp2_with fail
                go_meet
              all_goals
                rename_i hS
                have hSB := and5 hS
              · exact ⟨_, _, rfl, hSB, heap_alloc_new _ _, alloc_keep (t16_c hb rfl), Nat.le_trans (Nat.le_succ _) (by have := hb.size; simpa using this), Nat.le_refl _⟩
              · exact ⟨_, _, rfl, hSB, set4 (t16_a hb rfl) _ _ _ _, set4_ne (Nat.ne_of_lt (Nat.lt_succ_self _)) (t16_b hb rfl), Nat.le_succ _, Nat.le_refl _⟩
              · exact ⟨_, _, rfl, hSB, set4 (t16_b hb rfl) _ _ _ _, set4_ne (Nat.ne_of_gt (Nat.lt_succ_self _)) (t16_a hb rfl), Nat.le_refl _, Nat.le_succ _⟩
            case rest =>
              obtain ⟨T16, PB, rfl, hB12, h16, hPB, hT16, hPB2⟩ := hcut
              have HBc9 := Lib.hid (HB119.out.trans (hB12.mono HB119.out.size))
              have HBc5 := Lib.hid (HB95.out.trans (HBc9.out.mono HB95.out.size))
              have HBc := Lib.hid (HB5.out.trans (HBc5.out.mono HB5.out.size))
              have HWP := Lib.hid (pair_want HCS.out HBc.out hPB)
              have HPA := Lib.hid (HWP.out.1 wc (fun _ _ => rfl)).arg
              have HS11 := Lib.hid (show w5.heap.size ≤ w11.heap.size from Nat.le_trans HB95.out.size HB119.out.size)
              obtain ⟨a0, _⟩ := heapcell h16 0
              obtain ⟨a1, _⟩ := heapcell h16 1
              obtain ⟨a2, _⟩ := heapcell h16 2
              obtain ⟨a3, _⟩ := heapcell h16 3
              clear hB12 hPB
              go_upto_if 103 with fail
              refine (rmay_any _ _ _ HPA.out).mono ?_
              rintro e wd ⟨rfl, hbd⟩
              have b0 := cell_stepA a0 hbd
              have b1 := cell_stepA a1 hbd
              have b2 := cell_stepA a2 hbd
              have b3 := cell_stepA a3 hbd
              have h16d := (hbd.block T16 (Array.getElem?_eq_some_iff.1 h16).1).trans h16
              have H16 := Lib.hid h16d
              have HBd9 := Lib.hid (HBc9.out.trans (hbd.mono HBc9.out.size))
              have HBd5 := Lib.hid (HBc5.out.trans (hbd.mono HBc5.out.size))
              have HBd := Lib.hid (HBc.out.trans (hbd.mono HBc.out.size))
              have HWPd := Lib.hid (HWP.out.keep hbd.size (fun g hg => hbd.block g (by
                rcases hg with hg | hg
                · have := HBc.out.size; omega
                · exact HWP.out.2 g hg)))
              clear hbd a0 a1 a2 a3 h16 h16d
              go_upto_if 103 with fail
              have HRT : Hid (RT w wd w.heap.size T u3 u4 ts qs bq xs bw l[i] (.iface tya ua) (.iface tyb ub) ba bb bt #[.int .i64 k9, .int .i64 n9, .string s9, .slice la9 ln9 lc9] [.int .i64 k9, .int .i64 n9, .string s9, .slice la9 ln9 lc9]) := by
                have hs65 := HB65.out.size
                have hN := HN.out
                have hF5 := HF5.out
                rw [hN] at hF5
                refine Lib.hid ⟨HBd.out, hF5.below HBd5.out, RepV.keep _ _ _ (fun g hg => HBd9.out.block g (RepV.lt _ _ _ HVA9.out g hg)) HVA9.out, HNA.out, RepV.keep _ _ _ (fun g hg => HBd9.out.block g (RepV.lt _ _ _ HVB9.out g hg)) HVB9.out,
                  hF5.new HGA.out, hF5.new (fun g hg => Nat.le_trans hs65 (HGB.out g hg)), TwP.keep _ _ _ (fun g hg => HBd5.out.block g (TwP.lt _ _ _ HTW5.out g hg)) HTW5.out, (HBd5.out.block T (by have := HS5.out; omega)).trans HT7.out, fun hm => ?_, fun g hg hm => ?_, fun g hg hm => ?_⟩
                · have := HGA.out T hm; have := HS5.out; omega
                · have := HGA.out g hm; have := TwP.lt _ _ _ HTW5.out g hg; omega
                · have := HGB.out g hg; have := RepV.lt _ _ _ HVA.out g hm; omega
              go_cut [3, 4] from 103 to 113 (fun qv pv wx => ∃ ts' qs' bq' xs' bw', Hid (RT w wx w.heap.size T qv pv ts' qs' bq' xs' bw' l[i] (.iface tya ua) (.iface tyb ub) ba bb bt #[.int .i64 k9, .int .i64 n9, .string s9, .slice la9 ln9 lc9] [.int .i64 k9, .int .i64 n9, .string s9, .slice la9 ln9 lc9]) ∧ ts'.length ≤ ts.length + 1)
              case first =>
                cases hmp : mayP (.mk 5 0 ⟨#[]⟩ [l[i], l[i]])
                · go_wp2_with fail
                  go_meet
                  exact ⟨ts, qs, bq, xs, bw, HRT, by omega⟩
                · obtain ⟨⟨tyc, uc, rfl⟩, hvc, hnc, hgc⟩ := HJC.out hmp
                  obtain ⟨⟨tyd, ud, rfl⟩, hvd, hnd', hgd⟩ := HJD.out hmp
                  have HF := Lib.hid HRT.out.fi
                  have HQ := Lib.hid HRT.out.fi.q
                  have hts2 : ts.length ≤ 98 := by omega
                  have hpl := plainsOf_len ts
                  obtain ⟨m1, m2, m3, m4⟩ := may_plain (.mk 5 0 ⟨#[]⟩ [l[i], l[i]]) 65536 0 (by omega) (by omega) hmp
                  have m5 := meas_bd (.mk 5 0 ⟨#[]⟩ [l[i], l[i]]) 65536 0 hmp
                  have HP2 : Hid (plainOf (valOf (.mk 5 0 ⟨#[]⟩ [l[i], l[i]])) = .mk 5 0 ⟨#[]⟩ [l[i], l[i]] ∧ nodesV (valOf (.mk 5 0 ⟨#[]⟩ [l[i], l[i]])) ≤ 70000 ∧ depV (valOf (.mk 5 0 ⟨#[]⟩ [l[i], l[i]])) ≤ 70 ∧ txtV (valOf (.mk 5 0 ⟨#[]⟩ [l[i], l[i]]))) := Lib.hid ⟨m1, by omega, by omega, m4⟩
                  have HVC := Lib.hid hvc
                  have HVD := Lib.hid hvd
                  have HNC := Lib.hid hnc
                  have HGC : Hid (∀ g ∈ bc, w7.heap.size ≤ g) := Lib.hid (fun g hg => by have h1 := hgc g hg; simp at h1; omega)
                  have HGD : Hid (∀ g ∈ bd, w8.heap.size ≤ g) := Lib.hid (fun g hg => by have h1 := hgd g hg; simp at h1; omega)
                  have HMPP := Lib.hid hmp
                  clear m1 m2 m3 m4 m5 hvc hvd hnc hgc hgd hnd' hmp HJC HJD
                  go_wp2_with (at_builtin; refine wpList_append_own_at _ rfl _ _ 49 rfl w.heap.size 30 i30 .nilIface 1 16 Tryd.underlying49 HI30.out HY0.out HY1.out HY2.out rfl (by decide) _ _ _ rfl (HQ.out.alloc _) ⟨wd.heap.size, 0, none⟩ 1 1 [.iface tyd ud] rfl rfl ?c1 ?c2 ?c3 ?c4 ?c5 ?_)
                  case c1 => exact one_new _ _ _
                  case c2 => intro u hu; simp at hu; subst hu; rfl
                  case c3 => unfold maxLen; omega
                  case c4 => omega
                  case c5 => have := HF.out.base; simp; omega
                  intro qv' w14 hown hgrow _ hblk
                  obtain ⟨hF14, hK14⟩ := HF.out.pushQ (RepV.keep (w' := wd) _ _ _ (fun g hg => HBd9.out.block g (RepV.lt _ _ _ HVD.out g hg)) HVD.out) HP2.out.2 (fun g hg => (HF5.out.new (bs := bd) (fun g hg => by
                    have h1 := HGD.out g hg
                    have h2 := HB85.out.size
                    omega) g hg).2.2.2) (alloc_below wd _) hown hgrow (by simpa using hblk)
                  have hs14 := hK14.size
                  have hqlt : ∀ g, u3.ownBlock = some g → g < w5.heap.size := fun g e => (HF5.out.q.lt g e).2
                  have hplt : ∀ g, u4.ownBlock = some g → g < w5.heap.size := fun g e => (HF5.out.p.lt g e).2
                  have hs11 := HS11.out
                  have hs5d := HBd5.out.size
                  have h16e := (hK14.block T16 (Array.getElem?_eq_some_iff.1 H16.out).1 (fun hm => by
                    have h1 : u3.ownBlock = some T16 := by simpa using hm
                    have := hqlt _ h1; omega)).trans H16.out
                  have hWP14 : WantP w.heap.size w14 (.mk 5 0 ⟨#[]⟩ [l[i], l[i]]) [.int .i64 5, .int .i64 0, .string ⟨#[]⟩, .slice (some ⟨PB, 0, none⟩) 2 2] [PB] := HWPd.out.keep hs14 (fun g hg => by
                    rcases hg with hg | hg
                    · refine hK14.block g (by have := HBd.out.size; omega) (fun hm => ?_)
                      have h1 : u3.ownBlock = some g := by simpa using hm
                      have := (HF.out.q.lt g h1).1; omega
                    · have h2 : g = PB := by simpa using hg
                      refine hK14.block g (HWPd.out.2 g hg) (fun hm => ?_)
                      have h1 : u3.ownBlock = some g := by simpa using hm
                      have := hqlt _ h1; omega)
                  obtain ⟨a0, _⟩ := heapcell h16e 0
                  obtain ⟨a1, _⟩ := heapcell h16e 1
                  obtain ⟨a2, _⟩ := heapcell h16e 2
                  obtain ⟨a3, _⟩ := heapcell h16e 3
                  have HF14 := Lib.hid hF14
                  have HK14 := Lib.hid hK14
                  have HW14 := Lib.hid hWP14
                  have HBLK := Lib.hid hblk
                  have HQLT := Lib.hid hqlt
                  have HPLT := Lib.hid hplt
                  have HP14 := Lib.hid hF14.p
                  clear hF14 hK14 hWP14 hblk hown hgrow h16e hqlt hplt hs14 hs11 hs5d
                  go_wp2_with (at_builtin; refine wpList_append_own_at _ rfl _ _ 22 rfl w.heap.size 24 i24 _ 4 56 Tryd.underlying22 HI24.out HZ0.out HZ1.out HZ2.out rfl (by decide) _ _ _ rfl (HP14.out.alloc _) ⟨w14.heap.size, 0, none⟩ 1 1 [.int .i64 5, .int .i64 0, .string ⟨#[]⟩, .slice (some ⟨PB, 0, none⟩) 2 2] rfl rfl ?c1 ?c2 ?c3 ?c4 ?c5 ?_)
                  case c1 => exact four_new _ _ _ _ _ _
                  case c2 => intro u hu; simp at hu; rcases hu with rfl | rfl | rfl | rfl <;> rfl
                  case c3 => rw [hpl]; unfold maxLen; omega
                  case c4 => rw [hpl]; omega
                  case c5 => have := HF14.out.base; simp; omega
                  intro pv' w15 hown2 hgrow2 _ hblk2
                  obtain ⟨hF15, hK15⟩ := HF14.out.pushP HW14.out rfl (fun g hg => by
                    have h2 : g = PB := by simpa using hg
                    have hs11 := HS11.out
                    have hsd := HBd5.out.size
                    have hp := HWPd.out.2 g hg
                    refine ⟨fun e => ?_, fun e => by have := HPLT.out g e; omega⟩
                    rcases HBLK.out with h1 | h1
                    · have := HQLT.out g (h1.symm.trans e); omega
                    · rw [h1] at e; simp at e; omega) (alloc_below w14 _) (by rw [hpl]; exact hown2) hgrow2 (by simpa using hblk2)
                  have hR15 : RepV w15 (valOf (.mk 5 0 ⟨#[]⟩ [l[i], l[i]])) (.iface tyc uc) bc := RepV.keep _ _ _ (fun g hg => by
                    have h1 := HGC.out g hg
                    have h2 := RepV.lt _ _ _ HVC.out g hg
                    have h3 := HB75.out.size
                    have h4 := HB98.out.size
                    have h5 := HBd9.out.size
                    have h6 := HK14.out.size
                    rw [hK15.block g (by omega) (fun hm => by
                      have e : u4.ownBlock = some g := by simpa using hm
                      have := HPLT.out g e; omega), HK14.out.block g (by omega) (fun hm => by
                      have e : u3.ownBlock = some g := by simpa using hm
                      have := HQLT.out g e; omega), HBd9.out.block g (by omega), HB98.out.block g h2]) HVC.out
                  have HF15 := Lib.hid hF15
                  have HK15 := Lib.hid hK15
                  have HBLK2 := Lib.hid hblk2
                  have HR15 := Lib.hid hR15
                  clear hF15 hK15 hblk2 hown2 hgrow2 hR15 a0 a1 a2 a3
                  go_wp2_with fail
                  refine (full_any _ w15 _ bc (-5) HR15.out HNC.out HP2.out.2.1).mono ?_
                  rintro e w16 ⟨rfl, hK16⟩
                  have HK16 := Lib.hid hK16
                  clear hK16
                  go_wp2_with fail
                  go_meet
                  have hF15 := HF15.out
                  have hk14 := HK14.out.size
                  have hk15 := HK15.out.size
                  have hk16 := HK16.out.size
                  have hs65 := HB65.out.size
                  have hs05 := HB5.out.size
                  have hs76 := HB76.out.size
                  have hs87 := HB87.out.size
                  have hs98 := HB98.out.size
                  have hs9d := HBd9.out.size
                  have hs5d := HBd5.out.size
                  have hs11 := HS11.out
                  have hs91 := HB119.out.size
                  have hNn := HN.out
                  have hbN := HF.out.base
                  have hcl6 : ∀ g, g < w7.heap.size → w5.heap.size ≤ g ∨ (u3.ownBlock ≠ some g ∧ u4.ownBlock ≠ some g) → g ∉ bc ∧ (g < wd.heap.size) := fun g h1 _ => ⟨fun hm => by have := HGC.out g hm; omega, by omega⟩
                  have hkeep : ∀ g, g < w7.heap.size → u3.ownBlock ≠ some g → u4.ownBlock ≠ some g → w16.heap[g]? = wd.heap[g]? := fun g h1 h2 h3 => by
                    rw [HK16.out.block g (by omega) (fun hm => by have := HGC.out g hm; omega), HK15.out.block g (by omega) (fun hm => h3 (by simpa using hm)), HK14.out.block g (by omega) (fun hm => h2 (by simpa using hm))]
                  have hnq : ∀ g, w5.heap.size ≤ g → u3.ownBlock ≠ some g ∧ u4.ownBlock ≠ some g := fun g h1 => ⟨fun e => by have := HQLT.out g e; omega, fun e => by have := HPLT.out g e; omega⟩
                  have hqn : ∀ g, g < wd.heap.size → qv'.ownBlock = some g → u3.ownBlock = some g := fun g h1 e => by
                    rcases HBLK.out with h2 | h2
                    · exact h2.symm.trans e
                    · rw [h2] at e; simp at e; omega
                  have hpn : ∀ g, g < wd.heap.size → pv'.ownBlock = some g → u4.ownBlock = some g := fun g h1 e => by
                    rcases HBLK2.out with h2 | h2
                    · exact h2.symm.trans e
                    · rw [h2] at e; simp at e; omega
                  have hcba : ∀ g ∈ ba, w5.heap.size ≤ g ∧ g < w6.heap.size := fun g hg => ⟨HGA.out g hg, RepV.lt _ _ _ HVA.out g hg⟩
                  have hcbb : ∀ g ∈ bb, w5.heap.size ≤ g ∧ g < w7.heap.size := fun g hg => ⟨by have := HGB.out g hg; omega, RepV.lt _ _ _ HVB.out g hg⟩
                  have hcbc : ∀ g ∈ bc, w7.heap.size ≤ g ∧ g < w8.heap.size := fun g hg => ⟨HGC.out g hg, RepV.lt _ _ _ HVC.out g hg⟩
                  have hclear : ∀ bs : List Nat, (∀ g ∈ bs, w5.heap.size ≤ g ∧ g < w8.heap.size) → FI.clear qv' pv' (bq ++ bd) (bw ++ [PB]) bs w.heap.size := fun bs hb => by
                    have h5 := HF5.out
                    rw [hNn] at h5
                    refine clear_push (h5.new (fun g hg => (hb g hg).1)) (fun g hg hm => ?_) (fun g hg hm => ?_) (fun g hg => hqn g ?_) (fun g hg => hpn g ?_)
                    · have := HGD.out g hm; have := (hb g hg).2; omega
                    · have h2 : g = PB := by simpa using hm
                      have := (hb g hg).2; omega
                    · have := (hb g hg).2; omega
                    · have := (hb g hg).2; omega
                  have hbl : Below w.heap.size w w16 := by
                    have h0 := HBd.out
                    refine ⟨HK16.out.os.trans (HK15.out.os.trans (HK14.out.os.trans h0.os)), HK16.out.tape.trans (HK15.out.tape.trans (HK14.out.tape.trans h0.tape)), HK16.out.output.trans (HK15.out.output.trans (HK14.out.output.trans h0.output)), by omega, fun g hg => ?_⟩
                    rw [hkeep g (by omega) (fun e => by have := (HF.out.q.lt g e).1; omega) (fun e => by have := (HF.out.p.lt g e).1; omega)]
                    exact h0.block g hg
                  have hr := HRT.out
                  have htbt : ∀ g ∈ bt, u3.ownBlock ≠ some g ∧ u4.ownBlock ≠ some g := fun g hg => by
                    have h1 := HF3.out.new (bs := bt) HGT.out g hg
                    exact h1.2.2.2
                  have htt : u3.ownBlock ≠ some T ∧ u4.ownBlock ≠ some T := by
                    have h1 := HF4.out.new (bs := [T]) (fun g hg => by
                      have h2 : g = T := by simpa using hg
                      have := HT.out; omega) T (by simp)
                    exact h1.2.2.2
                  have hT5 := HS5.out
                  refine ⟨ts ++ [valOf (.mk 5 0 ⟨#[]⟩ [l[i], l[i]])], qs ++ [.iface tyd ud], bq ++ bd, xs ++ [.int .i64 5, .int .i64 0, .string ⟨#[]⟩, .slice (some ⟨PB, 0, none⟩) 2 2], bw ++ [PB], Lib.hid ⟨hbl, ?_, ?_, hr.na, ?_, hclear ba (fun g hg => by have := hcba g hg; omega), hclear bb (fun g hg => by have := hcbb g hg; omega), ?_, ?_, hr.ta⟩, by simp⟩
                  · rw [plainsOf_app, HP2.out.1]
                    exact hF15.keep HK16.out (hclear bc (fun g hg => by have := hcbc g hg; omega))
                  · exact RepV.keep _ _ _ (fun g hg => by have h1 := hcba g hg; exact hkeep g (by omega) (hnq g h1.1).1 (hnq g h1.1).2) hr.ra
                  · exact RepV.keep _ _ _ (fun g hg => by have h1 := hcbb g hg; exact hkeep g (by omega) (hnq g h1.1).1 (hnq g h1.1).2) hr.rb
                  · exact TwP.keep _ _ _ (fun g hg => by have h1 := TwP.lt _ _ _ HTW5.out g hg; exact hkeep g (by omega) (htbt g hg).1 (htbt g hg).2) hr.tw
                  · rw [hkeep T (by omega) htt.1 htt.2]; exact hr.t7
              case rest =>
                obtain ⟨ts2, qs2, bq2, xs2, bw2, HR, hl2⟩ := hcut
                clear HRT HX HX2 HX3 HX4 HX5 HX9 HX10 HX11 HVA HVA9 HVB HVB9 HVB10 HTW HTW5 HF2 HF3 HF4 HF5 HJC HJD HB65 HB75 HB76 HB85 HB87 HB95 HB98 HB109 HB119 HBc9 HBc5 HBc HWP HPA HS11 HBd9 HBd5 HWPd H16 b0 b1 b2 b3 hT16 hPB2 HGA HGB HGT HNA HNB HT7 HS5 HB4 HB5 HSZ4 HB3 HB2 HBd
                go_wp2_with fail
                refine (full_any (valOf l[i]) wc _ ba (-6) HR.out.ra HR.out.na HSM.out.1).mono ?_
                rintro e w17 ⟨rfl, hK17⟩
                have hBw17 : Below w.heap.size w w17 := HR.out.bl.trans (hK17.below (fun g hg => (HR.out.ca g hg).1) HR.out.bl.size)
                have HF17 := Lib.hid (HR.out.fi.keep hK17 HR.out.ca)
                have ht7 := (hK17.block T (Array.getElem?_eq_some_iff.1 HR.out.t7).1 HR.out.ta.1).trans HR.out.t7
                have HTW17 := Lib.hid (TwP.keep (w' := w17) _ _ _ (fun g hg => hK17.block g (TwP.lt _ _ _ HR.out.tw g hg) (HR.out.ta.2.1 g hg)) HR.out.tw)
                have HRB17 := Lib.hid (RepV.keep (w' := w17) _ _ _ (fun g hg => hK17.block g (RepV.lt _ _ _ HR.out.rb g hg) (HR.out.ta.2.2 g hg)) HR.out.rb)
                have HCB := Lib.hid HR.out.cb
                have HBW17 := Lib.hid hBw17
                have x0 := cell_stepA HXC.out.1 hBw17
                have x1 := cell_stepA HXC.out.2.1 hBw17
                have x2 := cell_stepA HXC.out.2.2.1 hBw17
                have x3 := cell_stepA HXC.out.2.2.2 hBw17
                have q0 : w17.cell? ⟨T, 0, none⟩ = some (.int .i64 k9) := (heapcell ht7 0).1
                have q1 : w17.cell? ⟨T, 1, none⟩ = some (.int .i64 n9) := (heapcell ht7 1).1
                have q2 : w17.cell? ⟨T, 2, none⟩ = some (.string s9) := (heapcell ht7 2).1
                have q3 : w17.cell? ⟨T, 3, none⟩ = some (.slice la9 ln9 lc9) := (heapcell ht7 3).1
                have HKP : Hid (∀ w', Below w17.heap.size w17 w' → Calls Tryd.prog 27 #[.agg #[.int .i64 k9, .int .i64 n9, .string s9, .slice la9 ln9 lc9], .agg #[.int .i64 k1, .int .i64 n1, .string s1, .slice la1 l1.length lc1]] w' (RetB w' (.bool true))) := Lib.hid (fun w' hb =>
                  kept_any l[i] w' _ bt _ (HTW17.out.below hb) ((HXW.out.below hBw17).below hb) (may_short _ 65536 0 (Int.le_refl _) HM.out))
                clear hK17 ht7 hBw17
                go_wp2_with fail
                have hBd : Below w17.heap.size w17 w17.drew := (Below.refl _ _).drew
                go_region_held3 (fun w' => w'.cell? ⟨b', o' + i * 4, none⟩ = some (.int .i64 k1) ∧ w'.cell? ⟨b', o' + i * 4 + 1, none⟩ = some (.int .i64 n1) ∧ w'.cell? ⟨b', o' + i * 4 + 2, none⟩ = some (.string s1) ∧ w'.cell? ⟨b', o' + i * 4 + 3, none⟩ = some (.slice la1 l1.length lc1) ∧
                    w'.cell? ⟨T, 0, none⟩ = some (.int .i64 k9) ∧ w'.cell? ⟨T, 1, none⟩ = some (.int .i64 n9) ∧ w'.cell? ⟨T, 2, none⟩ = some (.string s9) ∧ w'.cell? ⟨T, 3, none⟩ = some (.slice la9 ln9 lc9) ∧ Below w17.heap.size w17 w')
                  (first | exact ⟨x0, x1, x2, x3, q0, q1, q2, q3, hBd⟩ | (refine S8 x0 x1 x2 x3 q0 q1 q2 q3 ?_; repeat (first | exact hBd | exact Below.refl _ _ | refine below_step ?_ hb | refine below_drew' ?_)) | assumption)
                  (first | (go_at_call 27; ((with_reducible refine (HKP.out _ ?_).mono ?_); (first | assumption | (apply and9; assumption)); rintro e w18 ⟨rfl, hb⟩)))
                rename_i hS
                have hB18 := and9 hS
                have HB18 := Lib.hid hB18
                have HF18 := Lib.hid (HF17.out.below hB18)
                have HRB18 := Lib.hid (RepV.keep (w' := w18) _ _ _ (fun g hg => hB18.block g (RepV.lt _ _ _ HRB17.out g hg)) HRB17.out)
                have HQ := Lib.hid HF18.out.q
                have hts2 : ts2.length ≤ 99 := by omega
                clear hS hB18 hBd x0 x1 x2 x3 q0 q1 q2 q3
                have hpl := plainsOf_len ts2
                go_wp2_with (at_builtin; refine wpList_append_own_at _ rfl _ _ 49 rfl w.heap.size 30 i30 .nilIface 1 16 Tryd.underlying49 HI30.out HY0.out HY1.out HY2.out rfl (by decide) _ _ _ rfl (HQ.out.alloc _) ⟨w18.heap.size, 0, none⟩ 1 1 [.iface tyb ub] rfl rfl ?c1 ?c2 ?c3 ?c4 ?c5 ?_)
                case c1 => exact one_new _ _ _
                case c2 => intro u hu; simp at hu; subst hu; rfl
                case c3 => unfold maxLen; omega
                case c4 => omega
                case c5 => have := HF18.out.base; simp; omega
                intro qv' w19 hown hgrow _ hblk
                obtain ⟨hF19, hK19⟩ := HF18.out.pushQ HRB18.out HSM.out (fun g hg => (HCB.out g hg).2.2.2) (alloc_below w18 _) hown hgrow (by simpa using hblk)
                have hBw18 := HBW17.out.trans (HB18.out.mono HBW17.out.size)
                have hBw19 : Below w.heap.size w w19 := hBw18.trans (hK19.below (fun g hg => by
                  have e := HF18.out.q.lt g (by simpa using hg)
                  exact e.1) hBw18.size)
                have x0 := cell_stepA HXC.out.1 hBw19
                have x1 := cell_stepA HXC.out.2.1 hBw19
                have x2 := cell_stepA HXC.out.2.2.1 hBw19
                have x3 := cell_stepA HXC.out.2.2.2 hBw19
                have HF19 := Lib.hid hF19
                have HBW19 := Lib.hid hBw19
                have HP := Lib.hid hF19.p
                clear hF19 hK19 hown hgrow hblk hBw18 hBw19
                go_wp2_with (at_builtin; refine wpList_append_own_at _ rfl _ _ 22 rfl w.heap.size 24 i24 _ 4 56 Tryd.underlying22 HI24.out HZ0.out HZ1.out HZ2.out rfl (by decide) _ _ _ rfl (HP.out.alloc _) ⟨w19.heap.size, 0, none⟩ 1 1 [.int .i64 k1, .int .i64 n1, .string s1, .slice la1 l1.length lc1] rfl rfl ?c1 ?c2 ?c3 ?c4 ?c5 ?_)
                case c1 => exact four_new _ _ _ _ _ _
                case c2 => intro u hu; simp at hu; rcases hu with rfl | rfl | rfl | rfl <;> rfl
                case c3 => rw [hpl]; unfold maxLen; omega
                case c4 => rw [hpl]; omega
                case c5 => have := HF19.out.base; simp; omega
                intro pv' w20 hown2 hgrow2 _ hblk2
                obtain ⟨hF20, hK20⟩ := HF19.out.pushP (old_want HCS.out HBW19.out) rfl (by simp) (alloc_below w19 _) (by rw [hpl]; exact hown2) hgrow2 (by simpa using hblk2)
                have hBw20 : Below w.heap.size w w20 := HBW19.out.trans (hK20.below (fun g hg => by
                  have e := HF19.out.p.lt g (by simpa using hg)
                  exact e.1) HBW19.out.size)
                have HF20 : Hid (FI w.heap.size w20 qv' pv' (ts2 ++ [valOf l[i]]) (qs2 ++ [.iface tyb ub]) (bq2 ++ bb) (plainsOf (ts2 ++ [valOf l[i]])) (xs2 ++ [.int .i64 k1, .int .i64 n1, .string s1, .slice la1 l1.length lc1]) (bw2 ++ [])) := Lib.hid (by
                  rw [plainsOf_app, HMP.out]; exact hF20)
                have HBW20 := Lib.hid hBw20
                clear hF20 hK20 hown2 hgrow2 hblk2 hBw20
                go_wp2_with fail
                go_roundw
                case rel => exact ⟨i + 1, z + y, ts2 ++ [valOf l[i]], qs2 ++ [.iface tyb ub], bq2 ++ bb, xs2 ++ [.int .i64 k1, .int .i64 n1, .string s1, .slice la1 l1.length lc1], bw2 ++ [], by omega, by omega, by go_num, rfl, by omega, by omega, by simp; omega, HBW20, Lib.hid (by rw [HN.out]; exact HF20.out)⟩
                case measure => simp [intOf]; omega
      · have h50I : ¬ ((i : Int) < 50) := by omega
        obtain ⟨qa, qc, hqs⟩ := own_slice hF.out.q
        obtain ⟨pa, pc, hps⟩ := own_slice hF.out.p
        subst hqs
        subst hps
        have hpl := plainsOf_len ts
        have hts3 : ts.length ≤ 200 := by omega
        go_wp2_with fail
        go_loopw [17] (fun jv wr => ∃ (j : Nat), j ≤ ts.length ∧ jv = .int .i64 j ∧ Hid (Below w.heap.size w wr) ∧ Hid (FI N wr (.slice qa ts.length qc) (.slice pa (plainsOf ts).length pc) ts qs bq (plainsOf ts) xs bw))
          (fun jv _ => ts.length - (intOf jv).toNat)
        case atStart => exact ⟨0, by omega, rfl, hB, hF⟩
        case round =>
          obtain ⟨j, hj, rfl, hB, hF⟩ := hrel
          by_cases hlt2 : j < ts.length
          · rcases hF.out.q.2 with ⟨e, h0⟩ | ⟨g, cap, cur, e, _⟩
            · omega
            rcases hF.out.p.2 with ⟨e2, h0⟩ | ⟨g2, cap2, cur2, e2, _⟩
            · omega
            simp only [Value.slice.injEq, true_and] at e e2
            obtain ⟨rfl, rfl⟩ := e
            obtain ⟨rfl, rfl⟩ := e2
            obtain ⟨vj, bj, hvj, hrj, _⟩ := RepVs.get ts qs bq hF.out.rq j hlt2
            obtain ⟨tyj, uj, rfl⟩ := hrj.iface
            obtain ⟨k9, n9, s9, la9, ln9, lc9, hcs9, e0, e1, e2, e3⟩ := WantPs.get _ xs bw hF.out.rp j (by omega)
            have had : ∀ (G J : Nat), (⟨G, 0, none⟩ : Addr).add J = ⟨G, J, none⟩ := fun G J => by unfold Addr.add; split <;> simp_all
            have z0 := hF.out.q.cells (g := g) rfl j _ hvj
            have x0 := hF.out.p.cells (g := g2) rfl _ _ e0
            have x1 := hF.out.p.cells (g := g2) rfl _ _ e1
            have x2 := hF.out.p.cells (g := g2) rfl _ _ e2
            have x3 := hF.out.p.cells (g := g2) rfl _ _ e3
            rw [had] at z0 x0 x1 x2 x3
            have hg := plainsOf_get ts j hlt2 (by omega)
            have hsm := hF.out.small ts[j] (List.getElem_mem hlt2)
            have HIS : Hid (∀ w', Below wr.heap.size wr w' → Calls Tryd.prog 11 #[.iface tyj uj, .agg #[.int .i64 k9, .int .i64 n9, .string s9, .slice la9 ln9 lc9]] w' (RetB w' (.bool true))) := Lib.hid (fun w' hb =>
              is_any ts[j] _ w' _ _ bj (RepV.keep _ _ _ (fun b hb2 => hb.block b (RepV.lt _ _ _ hrj b hb2)) hrj) hg.symm (hcs9.arg.below hb) hsm.1 hsm.2.1 hsm.2.2)
            clear hrj hvj hcs9 e0 e1 e2 e3 had hg hsm
            go_wp2_with fail
            have hBd : Below wr.heap.size wr wr.drew := (Below.refl _ _).drew
            go_region_held3 (fun w' => w'.cell? ⟨g, j, none⟩ = some (.iface tyj uj) ∧ w'.cell? ⟨g2, j * 4, none⟩ = some (.int .i64 k9) ∧ w'.cell? ⟨g2, j * 4 + 1, none⟩ = some (.int .i64 n9) ∧ w'.cell? ⟨g2, j * 4 + 2, none⟩ = some (.string s9) ∧ w'.cell? ⟨g2, j * 4 + 3, none⟩ = some (.slice la9 ln9 lc9) ∧ Below wr.heap.size wr w')
              (first | exact ⟨z0, x0, x1, x2, x3, hBd⟩ | (refine S5 z0 x0 x1 x2 x3 ?_; repeat (first | exact hBd | exact Below.refl _ _ | refine below_step ?_ hb | refine below_drew' ?_)) | assumption)
              (first | (go_at_call 11; ((with_reducible refine (HIS.out _ ?_).mono ?_); (first | assumption | (apply and6; assumption)); rintro e w18 ⟨rfl, hb⟩)))
            rename_i hS
            have hB18 := and6 hS
            have HB18 := Lib.hid (hB.out.trans (hB18.mono hB.out.size))
            have HF18 := Lib.hid (hF.out.below hB18)
            clear hS hB18 hBd z0 x0 x1 x2 x3
            go_wp2_with fail
            go_roundw
            case rel => exact ⟨j + 1, by omega, by go_num, HB18, HF18⟩
            case measure => simp [intOf]; omega
          · obtain rfl : j = ts.length := by omega
            go_wp2_with fail
            go_ret
            exact ⟨rfl, hB.out⟩
    · have hltI : ¬ ((i : Int) < (l.length : Int)) := by omega
      obtain ⟨qa, qc, hqs⟩ := own_slice hF.out.q
      obtain ⟨pa, pc, hps⟩ := own_slice hF.out.p
      subst hqs
      subst hps
      have hpl := plainsOf_len ts
      have hts3 : ts.length ≤ 200 := by omega
      go_wp2_with fail
      go_loopw [17] (fun jv wr => ∃ (j : Nat), j ≤ ts.length ∧ jv = .int .i64 j ∧ Hid (Below w.heap.size w wr) ∧ Hid (FI N wr (.slice qa ts.length qc) (.slice pa (plainsOf ts).length pc) ts qs bq (plainsOf ts) xs bw))
        (fun jv _ => ts.length - (intOf jv).toNat)
      case atStart => exact ⟨0, by omega, rfl, hB, hF⟩
      case round =>
        obtain ⟨j, hj, rfl, hB, hF⟩ := hrel
        by_cases hlt2 : j < ts.length
        · rcases hF.out.q.2 with ⟨e, h0⟩ | ⟨g, cap, cur, e, _⟩
          · omega
          rcases hF.out.p.2 with ⟨e2, h0⟩ | ⟨g2, cap2, cur2, e2, _⟩
          · omega
          simp only [Value.slice.injEq, true_and] at e e2
          obtain ⟨rfl, rfl⟩ := e
          obtain ⟨rfl, rfl⟩ := e2
          obtain ⟨vj, bj, hvj, hrj, _⟩ := RepVs.get ts qs bq hF.out.rq j hlt2
          obtain ⟨tyj, uj, rfl⟩ := hrj.iface
          obtain ⟨k9, n9, s9, la9, ln9, lc9, hcs9, e0, e1, e2, e3⟩ := WantPs.get _ xs bw hF.out.rp j (by omega)
          have had : ∀ (G J : Nat), (⟨G, 0, none⟩ : Addr).add J = ⟨G, J, none⟩ := fun G J => by unfold Addr.add; split <;> simp_all
          have z0 := hF.out.q.cells (g := g) rfl j _ hvj
          have x0 := hF.out.p.cells (g := g2) rfl _ _ e0
          have x1 := hF.out.p.cells (g := g2) rfl _ _ e1
          have x2 := hF.out.p.cells (g := g2) rfl _ _ e2
          have x3 := hF.out.p.cells (g := g2) rfl _ _ e3
          rw [had] at z0 x0 x1 x2 x3
          have hg := plainsOf_get ts j hlt2 (by omega)
          have hsm := hF.out.small ts[j] (List.getElem_mem hlt2)
          have HIS : Hid (∀ w', Below wr.heap.size wr w' → Calls Tryd.prog 11 #[.iface tyj uj, .agg #[.int .i64 k9, .int .i64 n9, .string s9, .slice la9 ln9 lc9]] w' (RetB w' (.bool true))) := Lib.hid (fun w' hb =>
            is_any ts[j] _ w' _ _ bj (RepV.keep _ _ _ (fun b hb2 => hb.block b (RepV.lt _ _ _ hrj b hb2)) hrj) hg.symm (hcs9.arg.below hb) hsm.1 hsm.2.1 hsm.2.2)
          clear hrj hvj hcs9 e0 e1 e2 e3 had hg hsm
          go_wp2_with fail
          have hBd : Below wr.heap.size wr wr.drew := (Below.refl _ _).drew
          go_region_held3 (fun w' => w'.cell? ⟨g, j, none⟩ = some (.iface tyj uj) ∧ w'.cell? ⟨g2, j * 4, none⟩ = some (.int .i64 k9) ∧ w'.cell? ⟨g2, j * 4 + 1, none⟩ = some (.int .i64 n9) ∧ w'.cell? ⟨g2, j * 4 + 2, none⟩ = some (.string s9) ∧ w'.cell? ⟨g2, j * 4 + 3, none⟩ = some (.slice la9 ln9 lc9) ∧ Below wr.heap.size wr w')
            (first | exact ⟨z0, x0, x1, x2, x3, hBd⟩ | (refine S5 z0 x0 x1 x2 x3 ?_; repeat (first | exact hBd | exact Below.refl _ _ | refine below_step ?_ hb | refine below_drew' ?_)) | assumption)
            (first | (go_at_call 11; ((with_reducible refine (HIS.out _ ?_).mono ?_); (first | assumption | (apply and6; assumption)); rintro e w18 ⟨rfl, hb⟩)))
          rename_i hS
          have hB18 := and6 hS
          have HB18 := Lib.hid (hB.out.trans (hB18.mono hB.out.size))
          have HF18 := Lib.hid (hF.out.below hB18)
          clear hS hB18 hBd z0 x0 x1 x2 x3
          go_wp2_with fail
          go_roundw
          case rel => exact ⟨j + 1, by omega, by go_num, HB18, HF18⟩
          case measure => simp [intOf]; omega
        · obtain rfl : j = ts.length := by omega
          go_wp2_with fail
          go_ret
          exact ⟨rfl, hB.out⟩
end

section
open Go.ChangeShapes Go.WideShapes Go.ChangeAt Go.RowKit
set_option maxRecDepth 100000
theorem lifted_worthFresh (os : Os) (started : os.Started) (H : Type) (enc : TypeId × Value → H) :
    ReturnsInHanded {} Tryd.checked os 7 .any (fun w args => (Rows.worthFreshSpec.pre enc Tryd.prog Tryd.f7 [] false w args ∧ laidMetH Tryd.prog laid5 w) ∧ sizedMet enc Tryd.prog Tryd.f7 (OpenSpec.ofChange Rows.worthFreshSpec) false w args)
      (Rows.worthFreshSpec.post enc Tryd.prog Tryd.f7 false true false false) := by
  refine returnsInHanded_of_change_and (C := Tryd.checked) (X := fun w _ => laidMetH Tryd.prog laid5 w) (fun _ _ _ hh h => h.of_heap hh) own started (by kernel_rfl) Tryd.func7
    (ChangeSpec.witness_shaped (enc := enc) (C := Tryd.checked) (os := os) (X := fun w _ => laidMetH Tryd.prog laid5 w) false (World.doorLaid Tryd.prog 400 os) #[.slice none 0 0] 8 rfl (World.shaped_of_RefB (by kernel_rfl) (by kernel_rfl)) (by kernel_rfl) (by kernel_rfl) (by kernel_rfl) (door_met os _)) ?_
  intro W base args ds gs before hval0 hW _ hsz hL _
  have hval : ∀ (j : Nat) t v, Tryd.f7.params[j]? = some t → args[j]? = some v → Value.okWide Tryd.prog W .any base t v := hval0
  have hW' := hW
  obtain ⟨p, q, hA0, hV, rfl, hfz, hnd⟩ := hW
  have hA : DataW.TrodAll enc Tryd.prog W 0 (fun _ => true) true Tryd.f7.params.toList args.toList ds p := hA0
  rw [Tryd.params7] at hA hval
  have hA1 := hA
  obtain ⟨v0, d0, rfl, rfl, h0⟩ := trodAll_one hA
  obtain ⟨rfl, rfl⟩ := trodVars_none hV
  have hz : (DataW.weightsEach Tryd.prog [22] [d0]).all (· ≤ reachBytes) = true := by
    have h' : (DataW.weightsEach Tryd.prog (Tryd.f7.params.toList ++ []) ([d0] ++ [])).all (· ≤ reachBytes) = true := hsz
    rw [Tryd.params7] at h'
    exact h'
  obtain ⟨t0, ha0, ho0⟩ := open_slarg (hval 0 22 v0 rfl rfl) h0 (weights_at hz (j := 0) rfl rfl)
  obtain ⟨htab, h5⟩ := tabs_of_laid hL
  clear hval0
  refine (law_fresh t0 W v0 ha0 (fun w hb => (begun_any w (htab.below hb h5) (Nat.le_trans h5 hb.size)))).mono fun e W' ⟨he, hg⟩ => ?_
  subst he
  simp only [List.append_nil] at hW'
  refine ⟨_, rfl, post_below (pv := []) hW' (fun _ _ _ => (trodAll_cons_mk (shut_bool Tryd.underlying4 _) trodAll_mk0)) ?_ (fun _ _ => rfl) (List.append_nil _).symm hg (ok_one (by kernel_rfl) rfl (okWide_bool_mk Tryd.underlying4 _))⟩
  intro sp hsp
  have hA2 : DataW.TrodAll enc Tryd.prog W' 0 sp true Tryd.f7.params.toList [v0] [d0] (p) :=
    DataW.TrodAll.respare kidsT fullT (by rw [Tryd.params7]; decide) (trodAll_below hg (by rw [Tryd.params7]; exact hA1) (fun x hx => hW'.lt x hx)) hsp
  exact hA2
theorem over_worthFresh : Rows.worthFreshRow.holds Tryd.pinned (OpenSpec.ofChange Rows.worthFreshSpec) :=
  OpenClaim.holds_of_wide 7 Tryd.f7 rfl rfl rfl rfl rfl rfl rfl ⟨rfl, rfl, rfl, rfl, rfl⟩ rfl rfl rfl rfl rfl (by kernel_rfl) Tryd.func7 (by kernel_rfl)
    (of_decide_eq_true (by kernel_rfl)) (by unfold Func.isWrapper; first | (rw [if_pos (by decide +kernel)]; kernel_rfl) | (rw [if_neg (by decide +kernel)]; exact ⟨rfl, rfl⟩))
    (fun os started H enc _ => lifted_worthFresh os started H enc)
theorem worthFresh_holds : Rows.WorthFreshCardSaid :=
  Claim7.holds_tied_plain_at .later [] [.data, .data, .data, .sentinel, .sentinel] true (true, "87952721e25b2d47a731b52e3a2efbd7654279aba4613bb3f954613407b7271a") true
    over_worthFresh (fun _ h => by cases h) (by kernel_rfl) (fun _ h => by cases h) worthFresh_row_tie rfl ⟨rfl, rfl⟩ (by kernel_rfl) rfl
    (fun f fn hf hfn => by
      obtain rfl : f = 7 := Option.some.inj ((show Tryd.prog.funcNamed "espalier/espalierlaw2.WorthFresh" = some 7 by kernel_rfl).symm.trans hf) |>.symm
      obtain rfl : fn = Tryd.f7 := (Option.some.inj (Tryd.func7.symm.trans hfn)).symm
      exact ⟨by kernel_rfl, fun j t ht => by
        rw [Tryd.params7] at ht
        rcases j with _ | j
        · obtain rfl : t = 22 := by simpa using ht.symm
          exact (show Tryd.prog.wantsStandIn 22 = false by kernel_rfl)
        · simp at ht⟩)
    (by kernel_rfl)
#print axioms worthFresh_holds
end
end Go.Proofs.YtkpnnhebfaggeaaDoor
