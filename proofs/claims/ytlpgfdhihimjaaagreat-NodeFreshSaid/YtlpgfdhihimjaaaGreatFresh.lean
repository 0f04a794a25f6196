/-
  The law NodeFresh returns true whatever the input, and the input reads as it did: lists, trees and places that are told are the caller's own.
  Conditions: none.
-/
import Derived.Test.YtlpgfdhihimjaaaGreatKitC
import Derived.Test.YtlpgfdhihimjaaaGreatRows
import Derived.WalkKit
import Derived.ProofKit
import Derived.OpenShut
import Derived.SizedLaws
import Derived.ChangeArms
import Derived.ReadAgain
import Derived.Carry
set_option linter.unusedVariables false
set_option linter.unusedSimpArgs false
namespace Go.Proofs.YtlpgfdhihimjaaaGreat
section
open Go.RowKit
set_option maxRecDepth 100000
@[go_sem] theorem as159_53 (v : Value) (w : World) : (Instr.typeAssert (.iface 159 v) 56 53 true).run Tryz.prog w = .ok (.tuple #[.iface 159 v, .bool true]) w := by kernel_rfl
theorem hs_three {w : World} {hb : Nat} {t : TypeId} {u : Value} (hh : HdAt w hb t u) : HsN (w.alloc (.cells #[.pointer (some ⟨hb, 0, none⟩), .pointer (some ⟨hb, 0, none⟩), .pointer (some ⟨hb, 0, none⟩)] 29)) [hb, hb, hb] [.iface t u, .iface t u, .iface t u] (.slice (some ⟨w.heap.size, 0, none⟩) 3 3) := by
  have hb0 := alloc_below w (.cells #[.pointer (some ⟨hb, 0, none⟩), .pointer (some ⟨hb, 0, none⟩), .pointer (some ⟨hb, 0, none⟩)] 29)
  have hn := heap_alloc_new w (.cells #[.pointer (some ⟨hb, 0, none⟩), .pointer (some ⟨hb, 0, none⟩), .pointer (some ⟨hb, 0, none⟩)] 29)
  refine ⟨rfl, ⟨_, 3, rfl, fun _ => ⟨_, rfl, fun j b hj => ?_⟩, fun b hb' => ?_⟩, fun j b hj => ?_⟩
  · rcases j with _ | _ | _ | j
    · simp at hj; subst hj; rw [(heapcell hn 0).1]; rfl
    · simp at hj; subst hj; rw [(heapcell hn 1).1]; rfl
    · simp at hj; subst hj; rw [(heapcell hn 2).1]; rfl
    · simp at hj
  · simp at hb'; subst hb'; exact ⟨t, u, heap_keep hh hb0⟩
  · rcases j with _ | _ | _ | j
    · simp at hj; subst hj; exact ⟨t, u, rfl, heap_keep hh hb0⟩
    · simp at hj; subst hj; exact ⟨t, u, rfl, heap_keep hh hb0⟩
    · simp at hj; subst hj; exact ⟨t, u, rfl, heap_keep hh hb0⟩
    · simp at hj
theorem LeafAt.has {w : World} {ty : TypeId} {nb : Nat} {k s : ByteArray} {n : Int} (h : LeafAt w ty nb k n s) : ∃ hs, HasTy ty hs ∧ 1 ≤ (hadN hs 14).length ∧ (hadN hs 14).length ≤ 14 := by
  rcases h.1 with rfl | rfl | rfl
  · exact ⟨_, hasTy94, by decide, by decide⟩
  · exact ⟨_, hasTy99, by decide, by decide⟩
  · exact ⟨_, hasTy105, by decide, by decide⟩
theorem had159 : hadN has159 14 = [⟨#[87, 114, 97, 112, 112, 101, 100]⟩, ⟨#[79, 114, 105, 103, 105, 110]⟩] := by decide
theorem OwnPath.at {base : Nat} {w : World} {l : List Int} {v : Value} (h : OwnPath base w l v) : PathAt w l v := by
  obtain ⟨la, lc, rfl⟩ := own_slice h
  refine ⟨la, lc, rfl, fun hl => ?_⟩
  rcases h.2 with ⟨e, h0⟩ | ⟨g, cap, cur, e, _⟩
  · exact (hl (List.length_eq_zero_iff.1 h0)).elim
  · simp only [Value.slice.injEq, true_and] at e
    refine ⟨g, 0, e.1, fun i hi => ?_⟩
    have := h.cells (g := g) (by simp [Value.ownBlock, e.1]) i (.int .i64 l[i]) (by simp [ints, hi])
    rw [addr_add0] at this
    rw [Nat.zero_add]; exact this
/-- A list of names, as a row. -/
theorem NamesAt.row {base : Nat} {w : World} {l : List ByteArray} {v : Value} (h : NamesAt base w l v) (h0 : 1 ≤ l.length) (h14 : l.length ≤ 14) : ∃ r : Rw, v = .slice (some ⟨r.1, 0, none⟩) r.2.1 r.2.2 ∧ RowN w r ∧ base ≤ r.1 ∧ r.2.1 = l.length := by
  rcases h.2 with ⟨e, e0⟩ | ⟨g, cap, cur, e, hb, hg, h1, h2, h3, _⟩
  · omega
  · have hrc := RowC.of hg
    rw [h3] at hrc
    exact ⟨(g, l.length, cap), e, ⟨_, hrc, h1, h2, h14, by show 0 < cap; omega⟩, hb, rfl⟩
/-- A tree's four cells in its box. -/
theorem OutT.box {base : Nat} {w : World} {k s : ByteArray} {n : Int} {v : Value} (h : OutT base w k n s v) : v = .agg (cells4 v).toArray := by
  obtain ⟨kk, nn, ss, la, m, lc, rfl⟩ := h.form
  rfl
theorem w3_facts (W0 : World) : Below W0.heap.size W0 (((W0.alloc (.cells #[.slice none 0 0, .slice none 0 0, .int .i64 0, .slice none 0 0] 39)).alloc (.cells #[.slice none 0 0, .int .i64 0] 43)).alloc (.cells #[.slice none 0 0, .slice none 0 0, .int .i64 0, .slice none 0 0] 47)) ∧
    (((W0.alloc (.cells #[.slice none 0 0, .slice none 0 0, .int .i64 0, .slice none 0 0] 39)).alloc (.cells #[.slice none 0 0, .int .i64 0] 43)).alloc (.cells #[.slice none 0 0, .slice none 0 0, .int .i64 0, .slice none 0 0] 47)).heap[W0.heap.size]? = some (.cells #[nilS, nilS, .int .i64 0, nilS] 39 (0, 0)) ∧
    (((W0.alloc (.cells #[.slice none 0 0, .slice none 0 0, .int .i64 0, .slice none 0 0] 39)).alloc (.cells #[.slice none 0 0, .int .i64 0] 43)).alloc (.cells #[.slice none 0 0, .slice none 0 0, .int .i64 0, .slice none 0 0] 47)).heap[W0.heap.size + 1]? = some (.cells #[nilS, .int .i64 0] 43 (0, 0)) ∧
    (((W0.alloc (.cells #[.slice none 0 0, .slice none 0 0, .int .i64 0, .slice none 0 0] 39)).alloc (.cells #[.slice none 0 0, .int .i64 0] 43)).alloc (.cells #[.slice none 0 0, .slice none 0 0, .int .i64 0, .slice none 0 0] 47)).heap[W0.heap.size + 2]? = some (.cells #[nilS, nilS, .int .i64 0, nilS] 47 (0, 0)) ∧
    (((W0.alloc (.cells #[.slice none 0 0, .slice none 0 0, .int .i64 0, .slice none 0 0] 39)).alloc (.cells #[.slice none 0 0, .int .i64 0] 43)).alloc (.cells #[.slice none 0 0, .slice none 0 0, .int .i64 0, .slice none 0 0] 47)).heap.size = W0.heap.size + 3 := by
  have h1 := heap_alloc_new W0 (.cells #[.slice none 0 0, .slice none 0 0, .int .i64 0, .slice none 0 0] 39)
  have h2 := heap_alloc_new (W0.alloc (.cells #[.slice none 0 0, .slice none 0 0, .int .i64 0, .slice none 0 0] 39)) (.cells #[.slice none 0 0, .int .i64 0] 43)
  have h3 := heap_alloc_new ((W0.alloc (.cells #[.slice none 0 0, .slice none 0 0, .int .i64 0, .slice none 0 0] 39)).alloc (.cells #[.slice none 0 0, .int .i64 0] 43)) (.cells #[.slice none 0 0, .slice none 0 0, .int .i64 0, .slice none 0 0] 47)
  simp only [World.size_alloc] at h2 h3
  exact ⟨below_allocA (below_allocA (alloc_below W0 _) _) _, (Below.heap_alloc _ _ _ (by simp; omega)).trans ((Below.heap_alloc _ _ _ (by simp)).trans h1), (Below.heap_alloc _ _ _ (by simp)).trans h2, h3, by simp⟩
theorem take_start {W0 w7 : World} {N : Nat} {k s : ByteArray} {n : Int} {l : List Int} {xk xs wk ws : ByteArray} {xn wn : Int} {xla wla : Option Addr} {xm xlc wm wlc : Nat} (hN : N = W0.heap.size) (hb : Below N W0 w7)
    (c1 : w7.heap[N]? = some (.cells #[nilS, nilS, .int .i64 0, nilS] 39 (0, 0))) (c2 : w7.heap[N + 1]? = some (.cells #[nilS, .int .i64 0] 43 (0, 0))) (c3 : w7.heap[N + 2]? = some (.cells #[nilS, nilS, .int .i64 0, nilS] 47 (0, 0)))
    (hx : OutT (N + 3) w7 k n s (.agg #[.string xk, .int .i64 xn, .string xs, .slice xla xm xlc])) (hw : OutT (N + 3) w7 k n s (.agg #[.string wk, .int .i64 wn, .string ws, .slice wla wm wlc]))
    (hd : ∀ g ∈ outB (.agg #[.string xk, .int .i64 xn, .string xs, .slice xla xm xlc]), g ∉ outB (.agg #[.string wk, .int .i64 wn, .string ws, .slice wla wm wlc])) (hl : l.length ≤ 63) :
    Calls Tryz.prog 10 #[.pointer (some ⟨N, 0, none⟩), .slice (some ⟨w7.heap.size + 1, 0, none⟩) 1 1] ((w7.alloc (.cells #[.string wk, .int .i64 wn, .string ws, .slice wla wm wlc] 24)).alloc (.cells #[.string xk, .int .i64 xn, .string xs, .slice xla xm xlc] 24))
      fun e w' => e = .returned (.tuple #[]) ∧ LSt ⟨W0, N, N + 1, N + 2, w7.heap.size, k, n, s, l, .agg #[.string wk, .int .i64 wn, .string ws, .slice wla wm wlc]⟩ 0 0 0 w' := by
  subst hN
  have hb10 : Below w7.heap.size w7 ((w7.alloc (.cells #[.string wk, .int .i64 wn, .string ws, .slice wla wm wlc] 24)).alloc (.cells #[.string xk, .int .i64 xn, .string xs, .slice xla xm xlc] 24)) := below_allocA (alloc_below w7 _) _
  have hn1 := heap_alloc_new w7 (.cells #[.string wk, .int .i64 wn, .string ws, .slice wla wm wlc] 24)
  have hn2 := heap_alloc_new (w7.alloc (.cells #[.string wk, .int .i64 wn, .string ws, .slice wla wm wlc] 24)) (.cells #[.string xk, .int .i64 xn, .string xs, .slice xla xm xlc] 24)
  simp only [World.size_alloc] at hn2
  have hn1' := (Below.heap_alloc (w7.alloc (.cells #[.string wk, .int .i64 wn, .string ws, .slice wla wm wlc] 24)) (.cells #[.string xk, .int .i64 xn, .string xs, .slice xla xm xlc] 24) w7.heap.size (by simp)).trans hn1
  have hxl := hx.lt
  have hwl := hw.lt
  generalize ((w7.alloc (.cells #[.string wk, .int .i64 wn, .string ws, .slice wla wm wlc] 24)).alloc (.cells #[.string xk, .int .i64 xn, .string xs, .slice xla xm xlc] 24)) = w10 at hb10 hn1' hn2
  have hx10 := hx.keep (w' := w10) (fun g hg => hb10.block g (hxl g hg).2)
  have hw10 := hw.keep (w' := w10) (fun g hg => hb10.block g (hwl g hg).2)
  obtain ⟨t1, t2, t3, t4, t5⟩ := hx10.tr
  have hT := take_any w10 W0.heap.size W0.heap.size (w7.heap.size + 1) 1 [] nilS nilS nilS 0 0 [] [trOf (.agg #[.string xk, .int .i64 xn, .string xs, .slice xla xm xlc])] (bk_nil P1 (heap_keep c1 hb10) (Nat.le_refl _)) (fun t ht => by
      simp at ht; subst ht; exact t1) (fun i hi q v hv => by
      have : i = 0 := by simpa using hi
      subst this
      have h4 : q < 4 := by
        have := (List.getElem?_eq_some_iff.1 hv).1
        simpa [trOf, cells4] using this
      rw [Nat.zero_mul, Nat.zero_add, (heapcell hn2 q).1, ← hv]
      simp [trOf, cells4]) (by simp) (by simp [outs, trOf]; omega) (by simp only [outs, List.flatMap_cons, List.flatMap_nil, List.append_nil, trOf]; rw [t2]; unfold outB; simp; cases xla <;> simp [Value.ownBlock]) (fun r hr => by
      have hr' : r ∈ rowsOf (.agg #[.string xk, .int .i64 xn, .string xs, .slice xla xm xlc]) := by simpa [outs, trOf] using hr
      have hm : r.1 ∈ outB (.agg #[.string xk, .int .i64 xn, .string xs, .slice xla xm xlc]) := by rw [← t2]; exact List.mem_map.2 ⟨r, hr', rfl⟩
      have := (hxl _ hm).1
      refine ⟨by omega, fun hm2 => ?_⟩
      simp [bkB, nilS, Value.ownBlock] at hm2
      omega) (by simp)
  refine hT.mono fun e w' ⟨he, lv', nv', z', hE⟩ => ⟨he, ?_⟩
  have hE' : TakeE W0.heap.size W0.heap.size [] (rowsOf (.agg #[.string xk, .int .i64 xn, .string xs, .slice xla xm xlc])) nilS nilS nilS 0 [] 7001300 P1 w10 w' lv' nv' z' := by
    simpa [outs, trOf] using hE
  exact lst_start (hb.trans (hb10.mono hb.size)) (heap_keep c2 hb10) (heap_keep c3 hb10) hx10 hn1' hw10 (by have := (Array.getElem?_eq_some_iff.1 c3).1; omega) (fun g hg => ⟨by have := (hxl g hg).2; omega, hd g hg⟩) hE' hl
/-- A path that was told, in its box, while it is written over. -/
structure PW (wr : World) (TP : Nat) (f : ByteArray) (qa : Option Addr) (m qc : Nat) (wx : World) : Prop where
  b : Below wr.heap.size wr wx
  t : wx.heap[TP]? = some (.cells #[.string f, .slice qa m qc] 27 (0, 0))
  p : 0 < m → ∃ g cur, qa = some ⟨g, 0, none⟩ ∧ wx.heap[g]? = some (.cells cur 3 (0, 0)) ∧ m ≤ cur.size ∧ wr.heap.size ≤ g ∧ g ≠ TP
theorem PW.start {wr w2 w3 : World} {f : ByteArray} {l : List Int} {qa : Option Addr} {qc : Nat} (hb : Below wr.heap.size wr w2) (ho : OwnPath wr.heap.size w2 l (.slice qa l.length qc)) (hb3 : Below (w2.heap.size + 1) (w2.alloc (.cells #[.string f, .slice qa l.length qc] 27)) w3) : PW wr w2.heap.size f qa l.length qc w3 := by
  have hn := heap_alloc_new w2 (.cells #[.string f, .slice qa l.length qc] 27)
  have hs : (w2.alloc (.cells #[.string f, .slice qa l.length qc] 27)).heap.size = w2.heap.size + 1 := by simp
  rw [← hs] at hb3
  have hba := below_allocA hb (.cells #[.string f, .slice qa l.length qc] 27)
  refine ⟨hba.trans (hb3.mono hba.size), heap_keep hn hb3, fun h0 => ?_⟩
  rcases ho.2 with ⟨_, e0⟩ | ⟨g, cap, cur, e, hg1, hg, h1, h2, h3, _⟩
  · omega
  · simp only [Value.slice.injEq, true_and] at e
    have hgl := (Array.getElem?_eq_some_iff.1 hg).1
    exact ⟨g, cur, e.1, heap_keep ((Below.heap_alloc _ _ _ hgl).trans hg) hb3, by omega, hg1, by omega⟩
theorem PW.set {wr wx : World} {TP : Nat} {f : ByteArray} {m qc g : Nat} (h : PW wr TP f (some ⟨g, 0, none⟩) m qc wx) (h0 : 0 < m) (j : Nat) (v : Value) : PW wr TP f (some ⟨g, 0, none⟩) m qc (wx.setCell ⟨g, j, none⟩ v) := by
  obtain ⟨g', cur, e, h1, h2, h3, h4⟩ := h.p h0
  simp at e
  subst e
  exact ⟨h.b.setCell (p := ⟨g, j, none⟩) h3 v, (heap_set_ne v h4.symm).trans h.t, fun _ => ⟨g, cur.set! j v, rfl, heap_setA h1 v, by simpa using h2, h3, h4⟩⟩
theorem rowN_below {w w' : World} {r : Rw} (h : RowN w r) (hb : Below w.heap.size w w') : RowN w' r := h.keep (hb.block r.1 h.lt)
/-- Three lists of names, told one behind another. -/
theorem names3 {wx wa wb wc : World} {r1 r2 r3 : Rw} (b1 : Below wx.heap.size wx wa) (b2 : Below wa.heap.size wa wb) (b3 : Below wb.heap.size wb wc) (h1 : RowN wa r1) (k1 : wx.heap.size ≤ r1.1) (h2 : RowN wb r2) (k2 : wa.heap.size ≤ r2.1) (h3 : RowN wc r3) (k3 : wb.heap.size ≤ r3.1) (o : Obj) :
    Below wx.heap.size wx (wc.alloc o) ∧ (∀ r ∈ [r1, r2, r3], RowN (wc.alloc o) r ∧ wx.heap.size ≤ r.1) ∧ ([r1, r2, r3].map (·.1)).Nodup := by
  have c3 := alloc_below wc o
  have c2 : Below wb.heap.size wb (wc.alloc o) := b3.trans (c3.mono b3.size)
  have c1 : Below wa.heap.size wa (wc.alloc o) := b2.trans (c2.mono b2.size)
  have l1 := h1.lt
  have l2 := h2.lt
  have l3 := h3.lt
  have s1 := b1.size
  have s2 := b2.size
  refine ⟨b1.trans (c1.mono b1.size), fun r hr => ?_, ?_⟩
  · simp at hr
    rcases hr with rfl | rfl | rfl
    · exact ⟨rowN_below h1 c1, k1⟩
    · exact ⟨rowN_below h2 c2, by omega⟩
    · exact ⟨rowN_below h3 c3, by omega⟩
  · simp; omega
theorem cells3 {w : World} {r1 r2 r3 : Rw} {t : TypeId} : ∀ (i : Nat) (r : Rw), [r1, r2, r3][i]? = some r → (w.alloc (.cells #[rowV r1, rowV r2, rowV r3] t)).cell? ⟨w.heap.size, i, none⟩ = some (rowV r) := fun i r hr => by
  rw [(heapcell (heap_alloc_new w _) i).1]
  rcases i with _ | _ | _ | i
  · simp at hr; subst hr; rfl
  · simp at hr; subst hr; rfl
  · simp at hr; subst hr; rfl
  · simp at hr
/-- Two paths, told one behind another. -/
theorem paths2 {wx wa wb : World} {l : List Int} {u1 u2 : Value} (b1 : Below wx.heap.size wx wa) (b2 : Below wa.heap.size wa wb) (h1 : OwnPath wx.heap.size wa l u1) (h2 : OwnPath wa.heap.size wb l u2) (o : Obj) :
    Below wx.heap.size wx (wb.alloc o) ∧ (∀ x ∈ [u1, u2], OwnPath wx.heap.size (wb.alloc o) l x) ∧ ([u1, u2].flatMap (·.ownBlock.toList)).Nodup := by
  have c2 := alloc_below wb o
  have c1 : Below wa.heap.size wa (wb.alloc o) := b2.trans (c2.mono b2.size)
  refine ⟨b1.trans (c1.mono b1.size), fun x hx => ?_, ?_⟩
  · simp at hx
    rcases hx with rfl | rfl
    · exact ownsRow_keep h1 (fun g hg => c1.block g (h1.lt g hg).2)
    · exact (ownsRow_keep h2 (fun g hg => c2.block g (h2.lt g hg).2)).mono b1.size
  · cases e1 : u1.ownBlock with
    | none => cases e2 : u2.ownBlock <;> simp [e1, e2]
    | some g1 => cases e2 : u2.ownBlock with
      | none => simp [e1, e2]
      | some g2 =>
        have := (h1.lt g1 e1).2
        have := (h2.lt g2 e2).1
        simp [e1, e2]; omega
theorem cellsP {w : World} {f : ByteArray} {u1 u2 : Value} {t : TypeId} : ∀ (i : Nat) (u : Value), [u1, u2][i]? = some u → (w.alloc (.cells #[.string f, u1, .string f, u2] t)).cell? ⟨w.heap.size, i * 2 + 1, none⟩ = some u := fun i r hr => by
  rw [(heapcell (heap_alloc_new w _) (i * 2 + 1)).1]
  rcases i with _ | _ | i
  · simp at hr; subst hr; rfl
  · simp at hr; subst hr; rfl
  · simp at hr
/-- A list of two names that is one's own, written over. -/
theorem names_two {base : Nat} {w : World} {a b : ByteArray} {v : Value} (h : NamesAt base w [a, b] v) : ∃ g c cur, v = .slice (some ⟨g, 0, none⟩) 2 c ∧ base ≤ g ∧ w.heap[g]? = some (.cells cur 9 (0, 0)) ∧ 2 ≤ cur.size := by
  rcases h.2 with ⟨_, e0⟩ | ⟨g, cap, cur, e, hb, hg, h1, h2, h3, _⟩
  · simp at e0
  · exact ⟨g, cap, cur, e, hb, hg, by simp at h1; omega⟩
theorem str_two (w : World) (a b : ByteArray) : StrAt (w.alloc (.cells #[.string a, .string b] 9)) [a, b] (.slice (some ⟨w.heap.size, 0, none⟩) 2 2) := ⟨_, 2, rfl, fun _ => ⟨_, rfl, fun i hi => by
  rw [(heapcell (heap_alloc_new w _) i).1]
  rcases i with _ | _ | i
  · rfl
  · rfl
  · simp at hi; omega⟩⟩
theorem below_two {w0 w : World} {g : Nat} (h : Below w0.heap.size w0 w) (hg : w0.heap.size ≤ g) (x y : Value) : Below w0.heap.size w0 ((w.setCell ⟨g, 0, none⟩ x).setCell ⟨g, 1, none⟩ y) :=
  (h.setCell (p := ⟨g, 0, none⟩) hg x).setCell (p := ⟨g, 1, none⟩) hg y
end

section
open Go.RowKit
set_option maxRecDepth 100000
/-- What is handed in, in its boxes. -/
structure InB (w : World) (T : Nat) (k : ByteArray) (n : Int) (s : ByteArray) (kv : Value) (f : ByteArray) (p : Value) (wr : World) : Prop where
  b : Below w.heap.size w wr
  t : wr.heap[T]? = some (.cells #[.string k, .int .i64 n, .string s, kv] 24 (0, 0))
  a : wr.heap[T + 1]? = some (.cells #[.string f, p] 27 (0, 0))
theorem InB.below {w : World} {T : Nat} {k : ByteArray} {n : Int} {s : ByteArray} {kv : Value} {f : ByteArray} {p : Value} {wr w' : World} (h : InB w T k n s kv f p wr) (hb : Below wr.heap.size wr w') : InB w T k n s kv f p w' :=
  ⟨below_step h.b hb, heap_keep h.t hb, heap_keep h.a hb⟩
set_option maxHeartbeats 40000000 in
theorem law_fresh (w : World) (k : ByteArray) (n : Int) (s : ByteArray) (la : Option Addr) (ln lc : Nat) (hs : s.size ≤ 140737488355328) (f : ByteArray) (l : List Int) (v : Value) (hat : PlaceAt w f l v) :
    Calls Tryz.prog 3 #[.agg #[.string k, .int .i64 n, .string s, .slice la ln lc], v] w (RetB w (.bool true)) := by
  obtain ⟨hf, hl, p, rfl, pa, pc, rfl, hp⟩ := hat
  have HS := Lib.hid hs
  have HP : Hid (PathAt w l (.slice pa l.length pc)) := Lib.hid ⟨pa, pc, rfl, hp⟩
  have HF := Lib.hid (And.intro hf hl)
  clear hs hf hl hp
  go_enter Tryz.func3, Tryz.ntmps3
  go_wp2_with fail
  have HI : Hid (InB w w.heap.size k n s (.slice la ln lc) f (.slice pa l.length pc) ((w.alloc (.cells #[.string k, .int .i64 n, .string s, .slice la ln lc] 24)).alloc (.cells #[.string f, .slice pa l.length pc] 27))) := Lib.hid (by
    have h1 := heap_alloc_new w (.cells #[.string k, .int .i64 n, .string s, .slice la ln lc] 24)
    have h2 := heap_alloc_new (w.alloc (.cells #[.string k, .int .i64 n, .string s, .slice la ln lc] 24)) (.cells #[.string f, .slice pa l.length pc] 27)
    simp only [World.size_alloc] at h2
    exact ⟨below_allocA (alloc_below w _) _, (Below.heap_alloc _ _ _ (by simp)).trans h1, h2⟩)
  generalize ((w.alloc (.cells #[.string k, .int .i64 n, .string s, .slice la ln lc] 24)).alloc (.cells #[.string f, .slice pa l.length pc] 27)) = w0 at HI ⊢
  obtain ⟨T, hT⟩ : ∃ T, T = w.heap.size := ⟨_, rfl⟩
  simp only [← hT]
  rw [← hT] at HI
  have HTT := Lib.hid hT
  clear hT
  refine (begun_any w0).mono ?_
  rintro e w1 ⟨rfl, hb1⟩
  have HI1 := Lib.hid (HI.out.below hb1)
  clear HI hb1
  obtain ⟨x0, _⟩ := heapcell HI1.out.t 0
  obtain ⟨x1, _⟩ := heapcell HI1.out.t 1
  obtain ⟨x2, _⟩ := heapcell HI1.out.t 2
  obtain ⟨x3, _⟩ := heapcell HI1.out.t 3
  go_wp2_with fail
  refine (make_leaf w1 k n s la ln lc HS.out).mono ?_
  rintro e w2 (⟨t, c, rfl, hb2⟩ | ⟨ha, nb, ty, rfl, hha, hlf, _, hb2⟩)
  · have HI2 := Lib.hid (HI1.out.below hb2)
    clear hb2 HI1 x0 x1 x2 x3
    go_wp2_with fail
    go_ret
    exact ⟨rfl, HI2.out.b⟩
  have HI2 := Lib.hid (HI1.out.below hb2)
  have HA2 := Lib.hid hha
  have HL2 := Lib.hid hlf
  clear hb2 HI1 x0 x1 x2 x3 hha hlf
  obtain ⟨a0, _⟩ := heapcell HI2.out.a 0
  obtain ⟨a1, _⟩ := heapcell HI2.out.a 1
  go_wp2_with fail
  refine (pplace_any w2 f l _ ⟨HF.out.1, HF.out.2, _, rfl, HP.out.below HI2.out.b⟩).mono ?_
  rintro e w3 ⟨b, rfl, hbk, hb3⟩
  have HI3 := Lib.hid (HI2.out.below hb3)
  have HA3 : Hid (HdAt w3 ha ty (.pointer (some ⟨nb, 0, none⟩))) := Lib.hid (heap_keep HA2.out hb3)
  have HL3 := Lib.hid (HL2.out.below hb3)
  clear HI2 HA2 HL2 hb3 a0 a1
  cases b
  · clear hbk
    go_wp2_with fail
    go_ret
    exact ⟨rfl, HI3.out.b⟩
  have HOK := Lib.hid (hbk rfl)
  clear hbk
  go_wp2_with fail
  refine (make_frame_ok _ [ha, ha, ha] _ _ (hs_three HA3.out) (by simp) (by simp)).mono ?_
  rintro e w4 ⟨hh, fb, kv, rfl, hh4, hfr4, ho4, _, hb4⟩
  have HB4 := Lib.hid ((alloc_below w3 (.cells #[.pointer (some ⟨ha, 0, none⟩), .pointer (some ⟨ha, 0, none⟩), .pointer (some ⟨ha, 0, none⟩)] 29)).trans (hb4.mono (by simp)))
  have HI4 := Lib.hid (HI3.out.below HB4.out)
  have HA4 : Hid (HdAt w4 ha ty (.pointer (some ⟨nb, 0, none⟩))) := Lib.hid (heap_keep HA3.out HB4.out)
  have HL4 := Lib.hid (HL3.out.below HB4.out)
  have HH4 := Lib.hid hh4
  have HFR4 := Lib.hid hfr4
  have HO4 := Lib.hid ho4
  clear hb4 HI3 HA3 HL3 HB4 hh4 hfr4 ho4
  obtain ⟨a0, _⟩ := heapcell HI4.out.a 0
  obtain ⟨a1, _⟩ := heapcell HI4.out.a 1
  go_wp2_with fail
  refine (wrap_any w4 hh 99 _ f l _ HH4.out ⟨HF.out.1, HF.out.2, _, rfl, HP.out.below HI4.out.b⟩ HOK.out).mono ?_
  rintro e W0 ⟨hw, pb, rfl, hw5, hp5, _, hb5⟩
  have HI5 := Lib.hid (HI4.out.below hb5)
  have HA5 : Hid (HdAt W0 ha ty (.pointer (some ⟨nb, 0, none⟩))) := Lib.hid (heap_keep HA4.out hb5)
  have HN5 : Hid (∃ kb kc, ND W0 hw pb fb kb kc nb f l ty k n s) := Lib.hid (by
    rcases HO4.out.2 with ⟨_, h0⟩ | ⟨kb, kc, cur, rfl, _, hg, _, _, _, ht⟩
    · simp at h0
    · refine ⟨kb, kc, hw5, hp5, heap_keep HFR4.out hb5, ⟨cur, 56, heap_keep hg hb5, fun i hi => ?_⟩, HL4.out.below hb5⟩
      have hi' : i < 3 := hi
      have h := congrArg (·[i]?) ht
      simp only [List.getElem?_take] at h
      rw [if_pos (by simpa using hi')] at h
      rw [← Array.getElem?_toList, h]
      rcases i with _ | _ | _ | i
      · rfl
      · rfl
      · rfl
      · omega)
  clear hb5 hw5 hp5 HI4 HA4 HL4 HH4 HFR4 HO4 a0 a1
  obtain ⟨kb, kc, hnd⟩ := HN5.out
  have HN := Lib.hid hnd
  clear HN5 hnd
  go_wp2_with fail
  have HW3 := Lib.hid (w3_facts W0)
  generalize (((W0.alloc (.cells #[.slice none 0 0, .slice none 0 0, .int .i64 0, .slice none 0 0] 39)).alloc (.cells #[.slice none 0 0, .int .i64 0] 43)).alloc (.cells #[.slice none 0 0, .slice none 0 0, .int .i64 0, .slice none 0 0] 47)) = W3 at HW3 ⊢
  obtain ⟨N, hN⟩ : ∃ N, N = W0.heap.size := ⟨_, rfl⟩
  simp only [← hN]
  rw [← hN] at HW3
  have HNN := Lib.hid hN
  have HB3 : Hid (Below W0.heap.size W0 W3) := Lib.hid (by rw [← hN]; exact HW3.out.1)
  clear hN
  refine (nplain_any W3 hw pb fb kb kc nb f l ty k s n (HN.out.below HB3.out) HS.out).mono ?_
  rintro e w6 ⟨x, er, rfl, hx, hb6⟩
  have hxx := hx.form
  obtain ⟨xk, xn, xs, xla, xm, xlc, rfl⟩ := hxx
  have HX6 : Hid (OutT (N + 3) w6 k n s (.agg #[.string xk, .int .i64 xn, .string xs, .slice xla xm xlc])) := Lib.hid (by rw [← HW3.out.2.2.2.2]; exact hx)
  have HB6 := Lib.hid hb6
  clear hx hb6
  go_wp2_with fail
  have HZ6 := Lib.hid (heap_alloc_new w6 (.cells #[.string xk, .int .i64 xn, .string xs, .slice xla xm xlc] 24))
  have HA6 := Lib.hid (alloc_below w6 (.cells #[.string xk, .int .i64 xn, .string xs, .slice xla xm xlc] 24))
  generalize (w6.alloc (.cells #[.string xk, .int .i64 xn, .string xs, .slice xla xm xlc] 24)) = w6b at HZ6 HA6 ⊢
  obtain ⟨TX, hTX⟩ : ∃ TX, TX = w6.heap.size := ⟨_, rfl⟩
  simp only [← hTX]
  rw [← hTX] at HZ6
  have HTX := Lib.hid hTX
  clear hTX
  have HX6b : Hid (OutT (N + 3) w6b k n s (.agg #[.string xk, .int .i64 xn, .string xs, .slice xla xm xlc])) := Lib.hid (HX6.out.keep (fun g hg => HA6.out.block g (HX6.out.lt g hg).2))
  refine (own_tree w6b (N + 3) k n s _ HX6b.out).mono ?_
  rintro e w7 ⟨wv, rfl, hwv, hb7⟩
  have hww := hwv.form
  obtain ⟨wk, wn, ws, wla, wm, wlc, rfl⟩ := hww
  have HWV := Lib.hid hwv
  have HB7 := Lib.hid hb7
  have HZ7 := Lib.hid (heap_keep HZ6.out hb7)
  have HXl : Hid (TX < w7.heap.size) := Lib.hid (Array.getElem?_eq_some_iff.1 HZ7.out).1
  have hq : ∀ o, (w7.alloc o).heap[TX]? = some (.cells #[.string xk, .int .i64 xn, .string xs, .slice xla xm xlc] 24 (0, 0)) := fun o => (Below.heap_alloc _ _ _ HXl.out).trans HZ7.out
  obtain ⟨y0, _⟩ := heapcell (hq (.cells #[.string wk, .int .i64 wn, .string ws, .slice wla wm wlc] 24)) 0
  obtain ⟨y1, _⟩ := heapcell (hq (.cells #[.string wk, .int .i64 wn, .string ws, .slice wla wm wlc] 24)) 1
  obtain ⟨y2, _⟩ := heapcell (hq (.cells #[.string wk, .int .i64 wn, .string ws, .slice wla wm wlc] 24)) 2
  obtain ⟨y3, _⟩ := heapcell (hq (.cells #[.string wk, .int .i64 wn, .string ws, .slice wla wm wlc] 24)) 3
  clear hq hwv hb7
  go_wp2_with fail
  have HB6b : Hid (Below W0.heap.size W0 w6b) := Lib.hid ((HB3.out.trans (HB6.out.mono HB3.out.size)).trans (HA6.out.mono (HB3.out.trans (HB6.out.mono HB3.out.size)).size))
  have HB7w : Hid (Below W0.heap.size W0 w7) := Lib.hid (HB6b.out.trans (HB7.out.mono HB6b.out.size))
  have HX7 : Hid (OutT (N + 3) w7 k n s (.agg #[.string xk, .int .i64 xn, .string xs, .slice xla xm xlc])) := Lib.hid (HX6b.out.keep (fun g hg => HB7.out.block g (HX6b.out.lt g hg).2))
  have HC3 : Hid (w7.heap[N]? = some (.cells #[nilS, nilS, .int .i64 0, nilS] 39 (0, 0)) ∧ w7.heap[N + 1]? = some (.cells #[nilS, .int .i64 0] 43 (0, 0)) ∧ w7.heap[N + 2]? = some (.cells #[nilS, nilS, .int .i64 0, nilS] 47 (0, 0))) :=
    Lib.hid ⟨heap_keep (heap_keep (heap_keep HW3.out.2.1 HB6.out) HA6.out) HB7.out, heap_keep (heap_keep (heap_keep HW3.out.2.2.1 HB6.out) HA6.out) HB7.out, heap_keep (heap_keep (heap_keep HW3.out.2.2.2.1 HB6.out) HA6.out) HB7.out⟩
  have HS3 : Hid (N + 3 ≤ w6b.heap.size) := Lib.hid (by have := HW3.out.2.2.2.2; have := HB6.out.size; have := HA6.out.size; omega)
  clear y0 y1 y2 y3
  refine (take_start (l := l) HNN.out (by rw [HNN.out]; exact HB7w.out) HC3.out.1 HC3.out.2.1 HC3.out.2.2 HX7.out (HWV.out.mono HS3.out) (fun g hg hg2 => by
    have h1 := (HX6b.out.lt g hg).2
    have h2 := (HWV.out.lt g hg2).1
    omega) HOK.out.2.1).mono ?_
  rintro e w11 ⟨rfl, hst⟩
  have HST := Lib.hid hst
  clear hst
  obtain ⟨TW, hTW⟩ : ∃ TW, TW = w7.heap.size := ⟨_, rfl⟩
  rw [← hTW] at HST
  simp only [← hTW]
  clear hTW HZ7 HXl HB7w HX7 HC3 HS3 HB6b HB7 HX6b HX6 HA6 HB6 HZ6 HTX HWV HW3 HB3
  go_wp2_with fail
  go_loopw [17] (fun iv wr => ∃ i : Nat, i ≤ 2 ∧ iv = .int .i64 i ∧ Hid (LSt ⟨W0, N, N + 1, N + 2, TW, k, n, s, l, .agg #[.string wk, .int .i64 wn, .string ws, .slice wla wm wlc]⟩ i (2 * i) (3 * i) wr)) (fun iv _ => 2 - (intOf iv).toNat)
  case atStart => exact ⟨0, by omega, rfl, HST⟩
  case round =>
    obtain ⟨i, hi, rfl, HL⟩ := hrel
    have HB : Hid (Below W0.heap.size W0 wr) := Lib.hid HL.out.base0
    have HNr := Lib.hid (HN.out.below HB.out)
    by_cases hlt : i < 2
    · have hltI : (i : Int) < 2 := by omega
      have hm := met_From159 ⟨pb, 0, none⟩ wr
      go_wp2_with fail
      refine (node_any wr hw 159 _ HNr.out.h).mono ?_
      rintro e w' ⟨rfl, hw'⟩
      obtain rfl := hw'.symm
      go_wp2_with fail
      refine (from_any wr pb 99 _ f l HNr.out.p HOK.out.2.1).mono ?_
      rintro e w2 ⟨pv, rfl, ho, hb2⟩
      obtain ⟨qa, qc, rfl⟩ := own_slice ho
      have HIr := Lib.hid (HI5.out.below HB.out)
      have HO2 := Lib.hid ho
      have HB2 := Lib.hid hb2
      have HI2 := Lib.hid (below_allocA hb2 (.cells #[.string f, .slice qa l.length qc] 27))
      obtain ⟨a0, _⟩ := heapcell (HIr.out.below HI2.out).a 0
      obtain ⟨a1, _⟩ := heapcell (HIr.out.below HI2.out).a 1
      have HPa : Hid (PathAt (w2.alloc (.cells #[.string f, .slice qa l.length qc] 27)) l (.slice pa l.length pc)) := Lib.hid (HP.out.below (HIr.out.below HI2.out).b)
      have HPq : Hid (PathAt (w2.alloc (.cells #[.string f, .slice qa l.length qc] 27)) l (.slice qa l.length qc)) := Lib.hid (HO2.out.at.below (alloc_below w2 _))
      clear hb2 ho hm
      go_wp2_with fail
      refine (eqplace_any _ f l _ _ HPq.out HPa.out HOK.out.2.1).mono ?_
      rintro e w3 ⟨rfl, hb3⟩
      have HPW := Lib.hid (PW.start HB2.out HO2.out (by simpa using hb3))
      obtain ⟨TP, hTP⟩ : ∃ TP, TP = w2.heap.size := ⟨_, rfl⟩
      rw [← hTP] at HPW
      simp only [← hTP]
      clear hTP hb3 HPa HPq HI2 HO2 HB2 a0 a1
      have hl63 : (l.length : Int) ≤ 63 := by have := HOK.out.2.1; omega
      go_wp2_with fail
      go_loopw [21] (fun kv wx => ∃ j : Nat, j ≤ l.length ∧ kv = .int .i64 j ∧ Hid (PW wr TP f qa l.length qc wx)) (fun kv _ => l.length - (intOf kv).toNat)
      case atStart => exact ⟨0, by omega, rfl, HPW⟩
      case round =>
        obtain ⟨j, hj, rfl, HPX⟩ := hrel
        obtain ⟨t1, _⟩ := heapcell HPX.out.t 1
        by_cases hjl : j < l.length
        · have hjI : (j : Int) < (l.length : Int) := by omega
          obtain ⟨g, cur, rfl, hg1, hg2, _⟩ := HPX.out.p (by omega)
          obtain ⟨v0, f0⟩ := heapcell hg1 j
          obtain ⟨vv, hvv⟩ : ∃ vv, cur[j]? = some vv := ⟨_, Array.getElem?_eq_getElem (by omega)⟩
          rw [hvv] at v0
          have HPN := Lib.hid (HPX.out.set (by omega) j (.int .i64 (-9)))
          clear hg1 hg2 hvv
          go_wp2_with fail
          go_roundw
          case rel => exact ⟨j + 1, by omega, by go_num, HPN⟩
          case measure => simp [intOf]; omega
        · obtain rfl : j = l.length := by omega
          have hjI : ¬ ((l.length : Int) < (l.length : Int)) := by omega
          have HLx := Lib.hid (HL.out.below HPX.out.b)
          have HBx : Hid (Below W0.heap.size W0 wr) := Lib.hid HLx.out.base0
          have HNx := Lib.hid (HN.out.below HBx.out)
          clear HPX HL HB HNr HIr HPW
          go_wp2_with fail
          refine (abil_any wr hw pb 159 has159 hasTy159 HNx.out.h).mono ?_
          rintro e wa ⟨v1, rfl, hv1, hba⟩
          obtain ⟨⟨g1, n1, c1⟩, rfl, hr1, hk1, -⟩ := hv1.row (by rw [had159]; simp) (by rw [had159]; simp)
          have HR1 := Lib.hid (And.intro hr1 (And.intro hk1 hba))
          have HNa := Lib.hid (HNx.out.below hba)
          clear hv1 hr1 hk1 hba
          go_wp2_with fail
          refine (abil_any wa hw pb 159 has159 hasTy159 HNa.out.h).mono ?_
          rintro e wb ⟨v2, rfl, hv2, hbb⟩
          obtain ⟨⟨g2, n2, c2⟩, rfl, hr2, hk2, -⟩ := hv2.row (by rw [had159]; simp) (by rw [had159]; simp)
          have HR2 := Lib.hid (And.intro hr2 (And.intro hk2 hbb))
          have HAb : Hid (HdAt wb ha ty (.pointer (some ⟨nb, 0, none⟩))) := Lib.hid (heap_keep (heap_keep (heap_keep HA5.out HBx.out) HR1.out.2.2) hbb)
          clear hv2 hr2 hk2 hbb HNa
          obtain ⟨hsT, htyT, hT1, hT14⟩ := HN.out.lf.has
          go_wp2_with fail
          refine (abil_any wb ha nb ty hsT htyT HAb.out).mono ?_
          rintro e wc ⟨v3, rfl, hv3, hbc⟩
          obtain ⟨⟨g3, n3, c3⟩, rfl, hr3, hk3, -⟩ := hv3.row hT1 hT14
          have HR3 := Lib.hid (And.intro hr3 (And.intro hk3 hbc))
          clear hv3 hr3 hk3 hbc HAb htyT hT1 hT14
          go_wp2_with fail
          obtain ⟨q1, q2, q3⟩ := names3 HR1.out.2.2 HR2.out.2.2 HR3.out.2.2 HR1.out.1 HR1.out.2.1 HR2.out.1 HR2.out.2.1 HR3.out.1 HR3.out.2.1 (.cells #[rowV (g1, n1, c1), rowV (g2, n2, c2), rowV (g3, n3, c3)] 61)
          obtain ⟨R, lv, z, hC, hRl, hz, hfar, hnext⟩ := HLx.out.call3 q1 q2 q3
          have hA := hfar wc.heap.size (by have := HR1.out.2.2.size; have := HR2.out.2.2.size; have := HR3.out.2.2.size; omega)
          refine (lkeep_any (wc.alloc (.cells #[rowV (g1, n1, c1), rowV (g2, n2, c2), rowV (g3, n3, c3)] 61)) _ _ wc.heap.size 3 R [(g1, n1, c1), (g2, n2, c2), (g3, n3, c3)] lv z hC cells3 hA (by rw [hRl]; simp; omega) hz).mono ?_
          rintro e w5 ⟨rfl, lv', z', hI, hz'⟩
          have HL5 := Lib.hid (hnext w5 lv' z' hI hz')
          clear q1 q2 q3 hC hRl hz hfar hnext hA hI hz' HR1 HR2 HR3
          clear HBx HNx HLx
          have HB5 : Hid (Below W0.heap.size W0 w5) := Lib.hid HL5.out.base0
          have HN5 := Lib.hid (HN.out.below HB5.out)
          have hm5 := met_From159 ⟨pb, 0, none⟩ w5
          go_wp2_with fail
          refine (from_any w5 pb 99 _ f l HN5.out.p HOK.out.2.1).mono ?_
          rintro e w6 ⟨u1, rfl, ho1, hb6⟩
          obtain ⟨ua1, uc1, rfl⟩ := own_slice ho1
          have HO1 := Lib.hid (And.intro ho1 hb6)
          have HN6 := Lib.hid (HN5.out.below hb6)
          have hm6 := met_From159 ⟨pb, 0, none⟩ w6
          clear ho1 hb6 hm5
          go_wp2_with fail
          refine (from_any w6 pb 99 _ f l HN6.out.p HOK.out.2.1).mono ?_
          rintro e w7' ⟨u2, rfl, ho2, hb7⟩
          obtain ⟨ua2, uc2, rfl⟩ := own_slice ho2
          have HO2 := Lib.hid (And.intro ho2 hb7)
          clear ho2 hb7 hm6 HN6
          go_wp2_with fail
          obtain ⟨q1, q2, q3⟩ := paths2 HO1.out.2 HO2.out.2 HO1.out.1 HO2.out.1 (.cells #[.string f, .slice ua1 l.length uc1, .string f, .slice ua2 l.length uc2] 27)
          obtain ⟨lv, nv, kv, us, hbk, hus, hfar, hnext⟩ := HL5.out.call4 q1 q2 q3
          have hA := hfar w7'.heap.size (by have := HO1.out.2.size; have := HO2.out.2.size; omega)
          refine (pkeep_any (w7'.alloc (.cells #[.string f, .slice ua1 l.length uc1, .string f, .slice ua2 l.length uc2] 27)) _ _ w7'.heap.size 2 [] lv nv kv 0 us.length us [.slice ua1 l.length uc1, .slice ua2 l.length uc2] hbk (fun u hu => by
            simp at hu
            rcases hu with rfl | rfl
            · exact ⟨_, _, _, rfl⟩
            · exact ⟨_, _, _, rfl⟩) cellsP hA (by rw [hus]; simp; omega)).mono ?_
          rintro e w9 ⟨rfl, kv', hE⟩
          have HL9 := Lib.hid (hnext w9 kv' hE)
          clear q1 q2 q3 hbk hus hfar hnext hA hE HO1 HO2 HL5 HB5 HN5
          have HB9 : Hid (Below W0.heap.size W0 w9) := Lib.hid HL9.out.base0
          have HN9 := Lib.hid (HN.out.below HB9.out)
          go_wp2_with fail
          refine (nplain_any w9 hw pb fb kb kc nb f l ty k s n HN9.out HS.out).mono ?_
          rintro e wA ⟨zv, er2, rfl, hzv, hbA⟩
          have hzf := hzv.form
          obtain ⟨zk, zn, zs, zla, zm, zlc, rfl⟩ := hzf
          have HZA := Lib.hid (And.intro hzv hbA)
          clear hzv hbA
          go_wp2_with fail
          have hb2 := below_allocA (below_allocA HZA.out.2 (.cells #[.string zk, .int .i64 zn, .string zs, .slice zla zm zlc] 24)) (.cells #[.string zk, .int .i64 zn, .string zs, .slice zla zm zlc] 24)
          have hcA := heap_alloc_new (wA.alloc (.cells #[.string zk, .int .i64 zn, .string zs, .slice zla zm zlc] 24)) (.cells #[.string zk, .int .i64 zn, .string zs, .slice zla zm zlc] 24)
          simp only [World.size_alloc] at hcA
          have hz2 : OutT w9.heap.size ((wA.alloc (.cells #[.string zk, .int .i64 zn, .string zs, .slice zla zm zlc] 24)).alloc (.cells #[.string zk, .int .i64 zn, .string zs, .slice zla zm zlc] 24)) k n s (.agg #[.string zk, .int .i64 zn, .string zs, .slice zla zm zlc]) := HZA.out.1.keep (fun g hg => by
            have h1 := (HZA.out.1.lt g hg).2
            rw [Below.heap_alloc _ _ _ (by simp; omega), Below.heap_alloc _ _ _ h1])
          obtain ⟨rows, lv, nv, kv, z, vs, hbk, hvs, hnext⟩ := HL9.out.call1 hb2 hz2
          refine (keep_tree ((wA.alloc (.cells #[.string zk, .int .i64 zn, .string zs, .slice zla zm zlc] 24)).alloc (.cells #[.string zk, .int .i64 zn, .string zs, .slice zla zm zlc] 24)) _ _ (wA.heap.size + 1) 1 rows lv nv kv z vs.length (vs.flatMap cells4) (cells4 (.agg #[.string zk, .int .i64 zn, .string zs, .slice zla zm zlc])) hbk rfl hz2.tr.2.2.2.2 (fun q v hv => by
            rw [(heapcell hcA q).1, ← hv]
            simp [cells4]) (by omega)).mono ?_
          rintro e wD ⟨rfl, kv', hE⟩
          have HLD := Lib.hid (hnext wD kv' hE)
          clear hb2 hcA hz2 hbk hvs hnext hE HZA HL9 HB9 HN9
          have HBD : Hid (Below W0.heap.size W0 wD) := Lib.hid HLD.out.base0
          have HND := Lib.hid (HN.out.below HBD.out)
          go_wp2_with fail
          refine (abil_any wD hw pb 159 has159 hasTy159 HND.out.h).mono ?_
          rintro e wE ⟨v4, rfl, hv4, hbE⟩
          rw [had159] at hv4
          obtain ⟨g4, c4, cur4, rfl, hg4, hh4, hs4⟩ := names_two hv4
          have HV4 := Lib.hid (And.intro hg4 (And.intro hh4 (And.intro hs4 (And.intro hv4 hbE))))
          clear hv4 hg4 hh4 hs4 hbE
          go_wp2_with fail
          refine (eqnames_any (wE.alloc (.cells #[.string ⟨#[87, 114, 97, 112, 112, 101, 100]⟩, .string ⟨#[79, 114, 105, 103, 105, 110]⟩] 9)) [⟨#[87, 114, 97, 112, 112, 101, 100]⟩, ⟨#[79, 114, 105, 103, 105, 110]⟩] _ _ (HV4.out.2.2.2.1.str.below (alloc_below wE _)) (str_two wE _ _) (by simp)).mono ?_
          rintro e wF ⟨rfl, hbF⟩
          have hbF2 := (alloc_below wE (.cells #[.string ⟨#[87, 114, 97, 112, 112, 101, 100]⟩, .string ⟨#[79, 114, 105, 103, 105, 110]⟩] 9)).trans (hbF.mono (by simp))
          have hh4 := heap_keep HV4.out.2.1 hbF2
          obtain ⟨d0, e0⟩ := heapcell hh4 0
          obtain ⟨d1, e1⟩ := heapcell hh4 1
          obtain ⟨x0, hx0⟩ : ∃ vv, cur4[0]? = some vv := ⟨_, Array.getElem?_eq_getElem (by have := HV4.out.2.2.1; omega)⟩
          obtain ⟨x1, hx1⟩ : ∃ vv, cur4[1]? = some vv := ⟨_, Array.getElem?_eq_getElem (by have := HV4.out.2.2.1; omega)⟩
          rw [hx0] at d0
          rw [hx1] at d1
          have HEND : Hid (LSt ⟨W0, N, N + 1, N + 2, TW, k, n, s, l, .agg #[.string wk, .int .i64 wn, .string ws, .slice wla wm wlc]⟩ (i + 1) (2 * i + 2) (3 * i + 3) ((wF.setCell ⟨g4, 0, none⟩ (.string ⟨#[115, 112, 111, 105, 108, 116]⟩)).setCell ⟨g4, 1, none⟩ (.string ⟨#[115, 112, 111, 105, 108, 116]⟩))) :=
            Lib.hid (HLD.out.below (below_two (HV4.out.2.2.2.2.trans (hbF2.mono HV4.out.2.2.2.2.size)) HV4.out.1 _ _))
          clear hbF hbF2 hh4 hx0 hx1 HV4 HLD HBD HND
          go_wp2_with fail
          go_roundw
          case rel => exact ⟨i + 1, by omega, by go_num, HEND⟩
          case measure => simp [intOf]; omega
    · obtain rfl : i = 2 := by omega
      have hltI : ¬ ((2 : Nat) : Int) < 2 := by omega
      go_wp2_with fail
      refine (nplain_any wr hw pb fb kb kc nb f l ty k s n HNr.out HS.out).mono ?_
      rintro e wA ⟨zv, er2, rfl, hzv, hbA⟩
      have hzf := hzv.form
      obtain ⟨zk, zn, zs, zla, zm, zlc, rfl⟩ := hzf
      have hba := below_allocA hbA (.cells #[.string zk, .int .i64 zn, .string zs, .slice zla zm zlc] 24)
      have HLA := Lib.hid (HL.out.below hba)
      have HZA : Hid (OutT wr.heap.size (wA.alloc (.cells #[.string zk, .int .i64 zn, .string zs, .slice zla zm zlc] 24)) k n s (.agg #[.string zk, .int .i64 zn, .string zs, .slice zla zm zlc])) := Lib.hid (hzv.keep (fun g hg => Below.heap_alloc _ _ _ (hzv.lt g hg).2))
      obtain ⟨t0, _⟩ := heapcell HLA.out.want.1 0
      obtain ⟨t1, _⟩ := heapcell HLA.out.want.1 1
      obtain ⟨t2, _⟩ := heapcell HLA.out.want.1 2
      obtain ⟨t3, _⟩ := heapcell HLA.out.want.1 3
      simp only [cells4] at t0 t1 t2 t3
      clear hzv hbA hba HL HB HNr
      go_wp2_with fail
      refine (eq_tree _ _ _ k n s _ _ HZA.out HLA.out.want.2).mono ?_
      rintro e wB ⟨rfl, hbB⟩
      have HLB := Lib.hid (HLA.out.below hbB)
      clear hbB HLA HZA t0 t1 t2 t3
      go_wp2_with fail
      refine HLB.out.whole1.mono ?_
      rintro e wC ⟨rfl, o, R, lv2, z2, lv3, nv3, kv3, us, d0, d3, d4, d5, hR, hus⟩
      have HD := Lib.hid (And.intro d0 (And.intro d3 (And.intro d4 d5)))
      clear d0 d3 d4 d5
      go_wp2_with fail
      refine (whole2 HD.out.1 HD.out.2.1 HD.out.2.2.1 HD.out.2.2.2 (by omega)).mono ?_
      rintro e wE ⟨rfl, d0, d4, d5⟩
      have HD2 := Lib.hid (And.intro d0 (And.intro d4 d5))
      clear d0 d4 d5 HD
      go_wp2_with fail
      refine (whole3 HD2.out.1 HD2.out.2.1 HD2.out.2.2 hus HOK.out.2.1).mono ?_
      rintro e wG ⟨rfl, hbG⟩
      have HG : Hid (Below w.heap.size w wG) := Lib.hid (HI5.out.b.trans (hbG.mono HI5.out.b.size))
      clear hbG
      go_wp2_with fail
      go_ret
      exact ⟨rfl, HG.out⟩
end

section
open Go.ChangeShapes Go.WideShapes Go.ChangeAt Go.RowKit
set_option maxRecDepth 100000
theorem cells24 : Tryz.prog.cellsOf 24 = 4 := by kernel_rfl
theorem cells27 : Tryz.prog.cellsOf 27 = 2 := by kernel_rfl
theorem cells3' : Tryz.prog.cellsOf 3 = 1 := by kernel_rfl
theorem cells2' : Tryz.prog.cellsOf 2 = 1 := by kernel_rfl
theorem cells9' : Tryz.prog.cellsOf 9 = 1 := by kernel_rfl
theorem cells22' : Tryz.prog.cellsOf 22 = 1 := by kernel_rfl
theorem cells25' : Tryz.prog.cellsOf 25 = 1 := by kernel_rfl
theorem bytes3' : Tryz.prog.bytesOf 3 = 8 := by kernel_rfl
theorem choose_list {α : Type} {Q : Nat → α → Prop} : ∀ n : Nat, (∀ i, i < n → ∃ p, Q i p) → ∃ l : List α, l.length = n ∧ ∀ i (h : i < l.length), Q i l[i]
  | 0, _ => ⟨[], rfl, fun i h => by simp at h⟩
  | n + 1, h => by
    obtain ⟨l, hl, hq⟩ := choose_list n (fun i hi => h i (by omega))
    obtain ⟨p, hp⟩ := h n (by omega)
    refine ⟨l ++ [p], by simp [hl], fun i hi => ?_⟩
    by_cases h1 : i < l.length
    · rw [List.getElem_append_left h1]; exact hq i h1
    · have h2 : i = l.length := by simp at hi; omega
      subst h2
      simp only [List.getElem_concat_length]
      rw [hl]; exact hp
section
variable {H : Type} {enc : TypeId × Value → H} {W : World} {spare : Nat → Bool} {held : Bool}
theorem open_tree {fuel : Nat} {cs : List Value} {x : DataW H × List MemPlace} (h : DataW.trod enc Tryz.prog W 0 spare held fuel 24 cs = some x) (hw : ∀ n ∈ x.1.weights Tryz.prog 24, n ≤ reachBytes) :
    ∃ (k : ByteArray) (n : Int) (s : ByteArray) (la : Option Addr) (ln lc : Nat), cs = [.string k, .int .i64 n, .string s, .slice la ln lc] ∧ s.size ≤ 140737488355328 := by
  obtain ⟨xs, n, rfl, rfl, hcl, hxl, hel⟩ := DataW.trod_struct Tryz.underlying24 h
  rw [cells24] at hcl
  match cs, hcl with
  | [c0, c1, c2, c3], _ =>
  match xs, hxl with
  | [x0, x1, x2, x3], _ =>
  have h0 : DataW.trod enc Tryz.prog W 0 spare held n 9 (([c0, c1, c2, c3].drop 0).take (Tryz.prog.cellsOf 9)) = some x0 := hel 0 _ rfl
  have h1 : DataW.trod enc Tryz.prog W 0 spare held n 2 (([c0, c1, c2, c3].drop 1).take (Tryz.prog.cellsOf 2)) = some x1 := hel 1 _ rfl
  have h2 : DataW.trod enc Tryz.prog W 0 spare held n 9 (([c0, c1, c2, c3].drop 2).take (Tryz.prog.cellsOf 9)) = some x2 := hel 2 _ rfl
  have h3 : DataW.trod enc Tryz.prog W 0 spare held n 22 (([c0, c1, c2, c3].drop 3).take (Tryz.prog.cellsOf 22)) = some x3 := hel 3 _ rfl
  rw [cells9'] at h0 h2
  rw [cells2'] at h1
  rw [cells22'] at h3
  simp only [List.drop_zero, List.drop_succ_cons, List.take_succ_cons, List.take_zero] at h0 h1 h2 h3
  obtain ⟨k, e0, rfl, w0⟩ := DataW.trod_string Tryz.underlying9 h0
  obtain ⟨nn, e1, rfl, w1⟩ := DataW.trod_int Tryz.underlying2 h1
  obtain ⟨s, e2, rfl, w2⟩ := DataW.trod_string Tryz.underlying9 h2
  simp only [List.cons.injEq, and_true] at e0 e1 e2
  subst e0 e1 e2
  have hw' : ∀ z ∈ DataW.weightsEach Tryz.prog [9, 2, 9, 22] [DataW.lit (.string k.data.toList), .lit (.int .i64 nn), .lit (.string s.data.toList), x3.1], z ≤ reachBytes := by
    intro z hz
    refine hw z ?_
    have : ((DataW.agg ([((DataW.lit (.string k.data.toList) : DataW H), ([] : List MemPlace)), (.lit (.int .i64 nn), []), (.lit (.string s.data.toList), []), x3].map (·.1))).weights Tryz.prog 24) = DataW.weightsEach Tryz.prog [9, 2, 9, 22] [DataW.lit (.string k.data.toList), .lit (.int .i64 nn), .lit (.string s.data.toList), x3.1] := by
      simp [DataW.weights, Tryz.underlying24]
    rw [this]; exact hz
  have hs : s.size ≤ 140737488355328 := by
    have := hw' s.data.toList.length (by simp [DataW.weightsEach, DataW.weights])
    simp [reachBytes] at this
    have e : s.size = s.data.size := rfl
    omega
  rcases DataW.trod_slice Tryz.underlying22 h3 with ⟨e3, rfl⟩ | ⟨a, len, cap, elems, rest, n1, rfl, e3, rfl, hb1, hlc, hcm, hel2, hels, _, _⟩
  · simp only [List.cons.injEq, and_true] at e3
    subst e3
    exact ⟨k, nn, s, none, 0, 0, rfl, hs⟩
  · simp only [List.cons.injEq, and_true] at e3
    subst e3
    exact ⟨k, nn, s, some a, len, cap, rfl, hs⟩
theorem cell1_of {w : World} {a : Addr} {cs : List Value} (h : w.cells? 0 a 1 = some cs) : ∃ c, cs = [c] ∧ w.cell? a = some c := by
  unfold World.cells? at h
  rw [if_pos (Nat.zero_le _)] at h
  simp only [show List.range 1 = [0] from by decide, List.mapM_cons, List.mapM_nil, Option.bind_eq_bind, Option.bind_eq_some_iff, Option.pure_def, Option.some.injEq] at h
  obtain ⟨c0, h0, _, rfl, rfl⟩ := h
  have : a.add 0 = a := by simp [Addr.add]
  rw [this] at h0
  exact ⟨c0, rfl, h0⟩
theorem open_place {fuel : Nat} {cs : List Value} {x : DataW H × List MemPlace} (h : DataW.trod enc Tryz.prog W 0 spare held fuel 27 cs = some x) (hw : ∀ n ∈ x.1.weights Tryz.prog 27, n ≤ reachBytes) :
    ∃ (f : ByteArray) (l : List Int) (p : Value), cs = [.string f, p] ∧ f.size ≤ 140737488355328 ∧ l.length ≤ 140737488355328 ∧ PathAt W l p := by
  obtain ⟨xs, n, rfl, rfl, hcl, hxl, hel⟩ := DataW.trod_struct Tryz.underlying27 h
  rw [cells27] at hcl
  match cs, hcl with
  | [c0, c1], _ =>
  match xs, hxl with
  | [x0, x1], _ =>
  have h0 : DataW.trod enc Tryz.prog W 0 spare held n 9 (([c0, c1].drop 0).take (Tryz.prog.cellsOf 9)) = some x0 := hel 0 _ rfl
  have h1 : DataW.trod enc Tryz.prog W 0 spare held n 25 (([c0, c1].drop 1).take (Tryz.prog.cellsOf 25)) = some x1 := hel 1 _ rfl
  rw [cells9'] at h0
  rw [cells25'] at h1
  simp only [List.drop_zero, List.drop_succ_cons, List.take_succ_cons, List.take_zero] at h0 h1
  obtain ⟨f, e0, rfl, w0⟩ := DataW.trod_string Tryz.underlying9 h0
  simp only [List.cons.injEq, and_true] at e0
  subst e0
  have hw' : ∀ z ∈ DataW.weightsEach Tryz.prog [9, 25] [DataW.lit (.string f.data.toList), x1.1], z ≤ reachBytes := by
    intro z hz
    refine hw z ?_
    have : ((DataW.agg ([((DataW.lit (.string f.data.toList) : DataW H), ([] : List MemPlace)), x1].map (·.1))).weights Tryz.prog 27) = DataW.weightsEach Tryz.prog [9, 25] [DataW.lit (.string f.data.toList), x1.1] := by
      simp [DataW.weights, Tryz.underlying27]
    rw [this]; exact hz
  have hs : f.size ≤ 140737488355328 := by
    have := hw' f.data.toList.length (by simp [DataW.weightsEach, DataW.weights])
    simp [reachBytes] at this
    have e : f.size = f.data.size := rfl
    omega
  rcases DataW.trod_slice Tryz.underlying25 h1 with ⟨e3, rfl⟩ | ⟨a, len, cap, elems, rest, n1, rfl, e3, rfl, hb1, hlc, hcm, hel2, hels, _, _⟩
  · simp only [List.cons.injEq, and_true] at e3
    subst e3
    exact ⟨f, [], _, rfl, hs, by simp, none, 0, rfl, by simp⟩
  · simp only [List.cons.injEq, and_true] at e3
    subst e3
    have hln : len ≤ 140737488355328 := by
      have := hw' ((len + rest.length) * 8) (by
        simp only [DataW.weightsEach, DataW.weights, Tryz.underlying25, bytes3', List.length_map, List.append_nil, List.nil_append, List.mem_append, List.mem_cons, hel2]
        exact .inr (.inl trivial))
      simp only [reachBytes] at this
      omega
    have hea : ∀ i, i < len → ∃ v : Int, W.cell? (a.add i) = some (.int .i64 v) := by
      intro i hi
      have h4 := hels i hi
      rw [cells3', Nat.mul_one] at h4
      have hi' : i < elems.length := by omega
      rw [List.getElem?_eq_getElem hi'] at h4
      cases hc : W.cells? 0 (a.add i) 1 with
      | none => rw [hc] at h4; simp at h4
      | some cs =>
        rw [hc] at h4
        simp only [Option.bind_some] at h4
        obtain ⟨c, rfl, hcc⟩ := cell1_of hc
        obtain ⟨v, e, _, _⟩ := DataW.trod_int Tryz.underlying3 h4
        simp only [List.cons.injEq, and_true] at e
        subst e
        exact ⟨v, hcc⟩
    obtain ⟨l, hl, hq⟩ := choose_list len hea
    refine ⟨f, l, _, rfl, hs, by omega, some a, cap, by rw [hl], fun hne => ?_⟩
    have hpos : 0 < l.length := List.length_pos_iff.2 hne
    have hsp : a.spot = none := by
      have h0 := hq 0 hpos
      rw [show a.add 0 = a by simp [Addr.add]] at h0
      exact World.cell?_spot h0
    obtain ⟨b', o', sp⟩ := a
    obtain rfl : sp = none := hsp
    refine ⟨b', o', rfl, fun i hi => ?_⟩
    have := hq i hi
    rwa [Go.WideShapes.add_plain] at this
end
section
variable {H : Type} {enc : TypeId × Value → H} {P : Program}
theorem post_below {f : Func} {s : ChangeSpec} {apart fresh handsOn again : Bool} {W W' : World} {args : Array Value} {v : Value} {ds gs : List (DataW H)} {before pa pv : List MemPlace}
    (hW : DataW.Whole enc P f.params.toList s.vars apart W args.toList ds gs before)
    (hres : ∀ (b : Nat) (sp : Nat → Bool) (hd : Bool), DataW.TrodAll enc P W' b sp hd f.resultTypes.toList (v.resultList f.resultTypes.size) (s.fn H (ds ++ gs)).results [])
    (hargs : ∀ sp : Nat → Bool, (∀ p ∈ before, sp p.block = true) → DataW.TrodAll enc P W' 0 sp true f.params.toList args.toList (s.fn H (ds ++ gs)).args pa)
    (hvars : ∀ sp : Nat → Bool, (∀ p ∈ before, sp p.block = true) → DataW.TrodVars enc P W' sp s.vars (s.fn H (ds ++ gs)).vars pv)
    (hps : before = pa ++ pv) (hb : Below W.heap.size W W')
    (hok : ∀ (j : Nat) (t : TypeId) (r : Value), f.resultTypes[j]? = some t → (v.resultList f.resultTypes.size)[j]? = some r → Value.okWide P W' .any 0 t r) :
    s.post enc P f apart fresh handsOn again W args v W' := by
  have hlt : ∀ p ∈ before, p.block < W.heap.size := fun p hp => hW.lt p hp
  have hold : ∀ p ∈ before, (fun b => decide (b < W.heap.size)) p.block = true := fun p hp => by simpa using hlt p hp
  refine ⟨ds, gs, before, [], pa, pv, hW, hres _ _ _, hargs _ hold, hvars _ hold, World.keptBut_mono (fun p hp => ⟨hp, ?_⟩) (hb.frame (· ∈ before)), fun _ => ?_⟩
  · rw [hps, List.mem_append] at hp
    exact Or.inr hp
  · obtain ⟨_, _, _, _, _, hz, hn⟩ := hW
    refine ⟨hok, _, _, ([] ++ pa) ++ pv, ⟨[] ++ pa, pv, trodAll_append (hargs _ (fun _ _ => rfl)) (hres _ _ _), hvars _ (fun _ _ => rfl), rfl, ?_, ?_⟩, ?_⟩
    · intro b off hp
      have hin : MemPlace.cell b off ∈ before := by rw [hps]; simpa using hp
      rw [hb.frozen (hlt _ hin)]
      exact hz b off hin
    · intro ha
      have := hn ha
      rw [hps] at this
      simpa using this
    · intro p hp _
      rw [hps]
      simpa using hp
end
theorem weights_at {H : Type} {ts : List TypeId} {ds : List (DataW H)} (h : (DataW.weightsEach Tryz.prog ts ds).all (· ≤ reachBytes) = true) {j : Nat} {t : TypeId} {d : DataW H} (ht : ts[j]? = some t) (hd : ds[j]? = some d) : ∀ n ∈ d.weights Tryz.prog t, n ≤ reachBytes :=
  fun n hn => by simpa using List.all_eq_true.1 h _ (DataW.weights_mem_each ht hd n hn)
theorem kidsT : Kids Tryz.prog (· < Tryz.prog.types.size) := kids_rows (by kernel_rfl) (by kernel_rfl)
theorem fullT : ∀ t e, t < Tryz.prog.types.size → Tryz.prog.underlying t = some (.slice e) → 0 < Tryz.prog.cellsOf e := slices_full_of Tryz.prog (by kernel_rfl)
section
variable {H : Type} {enc : TypeId × Value → H}
theorem trodAll_below {W W' : World} (hb : Below W.heap.size W W') : ∀ {ts : List TypeId} {vs : List Value} {ds : List (DataW H)} {ps : List MemPlace}, DataW.TrodAll enc Tryz.prog W 0 (fun _ => true) true ts vs ds ps → (∀ p ∈ ps, p.block < W.heap.size) → DataW.TrodAll enc Tryz.prog W' 0 (fun _ => true) true ts vs ds ps
  | [], [], [], _, h, _ => h
  | t :: ts, v :: vs, d :: ds, ps, ⟨p, q, ⟨n, hn⟩, h2, e⟩, hs => ⟨p, q, ⟨n, DataW.trod_carry n _ _ _ hn (fun x hx => hb.same (hs x (by rw [e]; exact List.mem_append_left _ hx)))⟩, trodAll_below hb h2 (fun x hx => hs x (by rw [e]; exact List.mem_append_right _ hx)), e⟩
theorem arg_tree {W : World} {base : Nat} {v : Value} {d : DataW H} {p : List MemPlace} (hv : Value.okWide Tryz.prog W .any base 24 v) (h : DataW.Trod enc Tryz.prog W 0 (fun _ => true) true 24 v d p) (hw : ∀ n ∈ d.weights Tryz.prog 24, n ≤ reachBytes) :
    ∃ (k : ByteArray) (n : Int) (s : ByteArray) (la : Option Addr) (ln lc : Nat), v = .agg #[.string k, .int .i64 n, .string s, .slice la ln lc] ∧ s.size ≤ 140737488355328 := by
  unfold Value.okWide at hv
  rw [Tryz.underlying24] at hv
  obtain ⟨cs, rfl, _, _⟩ := hv
  obtain ⟨fuel, hf⟩ := h
  obtain ⟨k, n, s, la, ln, lc, h1, h2⟩ := open_tree hf hw
  refine ⟨k, n, s, la, ln, lc, ?_, h2⟩
  have h3 : cs.toList = [.string k, .int .i64 n, .string s, .slice la ln lc] := h1
  rw [← Array.toArray_toList (xs := cs), h3]
theorem arg_place {W : World} {base : Nat} {v : Value} {d : DataW H} {p : List MemPlace} (hv : Value.okWide Tryz.prog W .any base 27 v) (h : DataW.Trod enc Tryz.prog W 0 (fun _ => true) true 27 v d p) (hw : ∀ n ∈ d.weights Tryz.prog 27, n ≤ reachBytes) :
    ∃ (f : ByteArray) (l : List Int), PlaceAt W f l v := by
  unfold Value.okWide at hv
  rw [Tryz.underlying27] at hv
  obtain ⟨cs, rfl, _, _⟩ := hv
  obtain ⟨fuel, hf⟩ := h
  obtain ⟨f, l, q, h1, h2, h3, h4⟩ := open_place hf hw
  refine ⟨f, l, h2, h3, q, ?_, h4⟩
  have h5 : cs.toList = [.string f, q] := h1
  rw [← Array.toArray_toList (xs := cs), h5]
end
namespace nodeFresh
theorem own : ownKnob Tryz.prog.godebug = none := by kernel_rfl
theorem lifted (os : Os) (started : os.Started) (H : Type) (enc : TypeId × Value → H) :
    ReturnsInHanded {} Tryz.checked os 3 .any (Rows.nodeFreshSpec.pre6 enc Tryz.prog Tryz.f3 Rows.nodeFreshRow.domain false) (Rows.nodeFreshSpec.post enc Tryz.prog Tryz.f3 false true false false) := by
  refine returnsInHanded_of_change_sized (C := Tryz.checked) own started (by kernel_rfl) Tryz.func3
    (ChangeSpec.witness6 (enc := enc) (C := Tryz.checked) false ⟨#[], #[.agg #[.string ⟨#[]⟩, .int .i64 0, .string ⟨#[]⟩, .slice none 0 0], .agg #[.string ⟨#[]⟩, .slice none 0 0]], []⟩ 8 (by kernel_rfl) (by kernel_rfl) (by kernel_rfl) (by kernel_rfl)) ?_
  intro W base args ds gs before hval0 hW _ hsz _
  have hval : ∀ (j : Nat) t v, Tryz.f3.params[j]? = some t → args[j]? = some v → Value.okWide Tryz.prog W .any base t v := hval0
  have hW' := hW
  obtain ⟨p, q, hA0, hV, rfl, hfz, hnd⟩ := hW
  have hA : DataW.TrodAll enc Tryz.prog W 0 (fun _ => true) true Tryz.f3.params.toList args.toList ds p := hA0
  rw [Tryz.params3] at hA hval
  have hA1 := hA
  obtain ⟨v0, vs0, d0, ds0, p0, q0, hargs, rfl, rfl, h0, r0⟩ := trodAll_cons hA
  obtain ⟨v1, vs1, d1, ds1, p1, q1, rfl, rfl, rfl, h1, r1⟩ := trodAll_cons r0
  obtain ⟨rfl, rfl, rfl⟩ := trodAll_nil r1
  obtain rfl : args = #[v0, v1] := by cases args; simp_all
  obtain ⟨rfl, rfl⟩ := trodVars_none hV
  have hz : (DataW.weightsEach Tryz.prog [24, 27] [d0, d1]).all (· ≤ reachBytes) = true := by
    have h' : (DataW.weightsEach Tryz.prog (Tryz.f3.params.toList ++ []) ([d0, d1] ++ [])).all (· ≤ reachBytes) = true := hsz
    rw [Tryz.params3] at h'
    exact h'
  obtain ⟨k, n, s, la, ln, lc, rfl, hs⟩ := arg_tree (hval 0 24 v0 rfl rfl) h0 (weights_at hz (j := 0) rfl rfl)
  obtain ⟨f, l, hat⟩ := arg_place (hval 1 27 v1 rfl rfl) h1 (weights_at hz (j := 1) rfl rfl)
  clear hval0
  refine (law_fresh W k n s la ln lc hs f l v1 hat).mono fun e W' ⟨he, hg⟩ => ?_
  subst he
  simp only [List.append_nil] at hW'
  refine ⟨_, rfl, post_below (pv := []) hW' (fun _ _ _ => (trodAll_cons_mk (shut_bool Tryz.underlying4 _) trodAll_mk0)) ?_ (fun _ _ => rfl) (List.append_nil _).symm hg (ok_one (by kernel_rfl) rfl (okWide_bool_mk Tryz.underlying4 _))⟩
  intro sp hsp
  have hA2 : DataW.TrodAll enc Tryz.prog W' 0 sp true Tryz.f3.params.toList [.agg #[.string k, .int .i64 n, .string s, .slice la ln lc], v1] [d0, d1] (p0 ++ p1) :=
    DataW.TrodAll.respare kidsT fullT (by rw [Tryz.params3]; decide) (trodAll_below hg (by rw [Tryz.params3]; simpa using hA1) (fun x hx => hW'.lt x hx)) hsp
  exact hA2
theorem over : Rows.nodeFreshRow.holds Tryz.pinned (OpenSpec.ofChange Rows.nodeFreshSpec) :=
  OpenClaim.holds_of_wide 3 Tryz.f3 rfl rfl rfl rfl rfl rfl rfl ⟨rfl, rfl, rfl, rfl, rfl⟩ rfl rfl rfl rfl rfl (by kernel_rfl) Tryz.func3 (by kernel_rfl)
    (of_decide_eq_true (by kernel_rfl)) (by unfold Func.isWrapper; first | (rw [if_pos (by decide +kernel)]; kernel_rfl) | (rw [if_neg (by decide +kernel)]; exact ⟨rfl, rfl⟩))
    (fun os started H enc _ => lifted os started H enc)
theorem proved : Rows.NodeFreshSaid :=
  over
#print axioms proved
end nodeFresh
end
end Go.Proofs.YtlpgfdhihimjaaaGreat
