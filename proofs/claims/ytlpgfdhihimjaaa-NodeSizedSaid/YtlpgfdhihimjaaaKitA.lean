/-
  The rows of the kit base, and what fits a frame or a use: walks by the kit.
  Conditions: none.
-/
import Derived.Test.YtlpgfdhihimjaaaProg
import Derived.WalkKit
import Derived.WalkLawsBesides
import Derived.WalkSpells
import Derived.ProofKit
import Derived.Lib.Hide
import Derived.Deep.AppendLies
import Derived.Deep.RegionLaw
import Derived.Deep.CutRange
import Derived.Deep.RegionHeld3
import Derived.StillTailTactics
import Derived.Maps.AppendAt
set_option linter.unusedVariables false
set_option linter.unusedSimpArgs false
namespace Go.Proofs.Ytlpgfdhihimjaaa
section
open Go.RowKit
set_option maxRecDepth 100000
/-- A call that answers v and lays new memory alone. -/
def RetB (w : World) (v : Value) (e : Ending) (w' : World) : Prop := e = .returned v ∧ Below w.heap.size w w'
theorem heapcell {w : World} {b : Nat} {cs : Array Value} {t : TypeId} (h : w.heap[b]? = some (.cells cs t (0, 0))) (j : Nat) : w.cell? ⟨b, j, none⟩ = cs[j]? ∧ w.frozen? ⟨b, j, none⟩ = false := by
  constructor
  · unfold World.cell?; rw [h]; simp
  · unfold World.frozen?; rw [h]; simp
theorem cell_stepA {w w' : World} {a : Addr} {v : Value} (h : w.cell? a = some v) (hb : Below w.heap.size w w') : w'.cell? a = some v := (hb.cell (World.block_lt_of_cell? w a h)).trans h
theorem heap_alloc_new (w : World) (o : Obj) : (w.alloc o).heap[w.heap.size]? = some o := by
  show (w.heap.push o)[w.heap.size]? = some o
  simp
theorem alloc_below (w : World) (o : Obj) : Below w.heap.size w (w.alloc o) := (Below.refl w.heap.size w).alloc (Nat.le_refl _) o
theorem below_step {W w w' : World} (h : Below W.heap.size W w) (hb : Below w.heap.size w w') : Below W.heap.size W w' := h.trans (hb.mono h.size)
theorem heap_keep {w w' : World} {b : Nat} {o : Obj} (h : w.heap[b]? = some o) (hb : Below w.heap.size w w') : w'.heap[b]? = some o := (hb.block b (Array.getElem?_eq_some_iff.1 h).1).trans h
/-- 'New': an error that bears a number. -/
theorem new_any (w : World) (c : Int) (hc : c ≠ 0) : Calls Try.prog 24 #[.int .i64 c] w fun e w' => e = .returned (.iface 139 (.pointer (some ⟨w.heap.size, 0, none⟩))) ∧ w' = w.alloc (.cells #[.int .i64 c] 141) := by
  go_enter Try.func24, Try.ntmps24
  go_wp2_with fail
  go_ret
  exact ⟨rfl, rfl⟩
/-- A handle that holds a node. -/
def HdAt (w : World) (b : Nat) (t : TypeId) (u : Value) : Prop := w.heap[b]? = some (.cells #[.iface t u] 52 (0, 0))
theorem node_any (w : World) (b : Nat) (t : TypeId) (u : Value) (h : HdAt w b t u) : Calls Try.prog 12 #[.pointer (some ⟨b, 0, none⟩)] w fun e w' => e = .returned (.iface t u) ∧ w' = w := by
  obtain ⟨h0, _⟩ := heapcell h 0
  go_enter Try.func12, Try.ntmps12
  go_wp2_with fail
  go_ret
  exact ⟨rfl, rfl⟩
theorem holds_any (w : World) (b : Nat) (t : TypeId) (u : Value) (h : HdAt w b t u) : Calls Try.prog 31 #[.pointer (some ⟨b, 0, none⟩)] w fun e w' => e = .returned (.bool true) ∧ w' = w := by
  go_enter Try.func31, Try.ntmps31
  go_wp2_with fail
  refine (node_any w b t u h).mono ?_
  rintro e w' ⟨rfl, rfl⟩
  go_wp2_with fail
  go_ret
  exact ⟨rfl, rfl⟩
theorem of_any (w : World) (t : TypeId) (u : Value) : Calls Try.prog 26 #[.iface t u] w fun e w' => e = .returned (.pointer (some ⟨w.heap.size, 0, none⟩)) ∧ w' = w.alloc (.cells #[.iface t u] 52) := by
  go_enter Try.func26, Try.ntmps26
  go_wp2_with fail
  go_ret
  exact ⟨rfl, rfl⟩
end

section
open Go.RowKit
set_option maxRecDepth 100000
theorem lit_any (w : World) (k : ByteArray) (n : Bool) (t : Int) : Calls Try.prog 21 #[.string k, .bool n, .int .i64 t] w fun e w' => ∃ a, e = .returned (.agg #[.string k, .int .i64 0, .int .i64 0, .bool n, .int .i64 t, .slice (some a) 4 4]) ∧ Below w.heap.size w w' := by
  go_enter Try.func21, Try.ntmps21
  go_wp2_with fail
  exact bodyPost_ret (v := .agg #[.string k, .int .i64 0, .int .i64 0, .bool n, .int .i64 t, .slice (some ⟨w.heap.size + 1, 0, none⟩) 4 4]) (by simp [results, Try.results21, go_sem]) rfl ⟨_, rfl, (alloc_below w _).alloc (by simp) _⟩
/-- The rows of the kit base lie there. -/
def RowsAt (w : World) (b : Nat) : Prop := ∃ a0 a1 a2 a3 a4 a5 a6 : Addr, w.heap[b]? = some (.cells #[.string ⟨#[98, 97, 115, 101, 46, 117, 110, 105, 116]⟩, .int .i64 0, .int .i64 0, .bool false, .int .i64 0, .slice (some a0) 4 4, .string ⟨#[98, 97, 115, 101, 46, 121, 101, 115]⟩, .int .i64 0, .int .i64 0, .bool false, .int .i64 0, .slice (some a1) 4 4, .string ⟨#[98, 97, 115, 101, 46, 110, 111]⟩, .int .i64 0, .int .i64 0, .bool false, .int .i64 0, .slice (some a2) 4 4, .string ⟨#[98, 97, 115, 101, 46, 105, 110, 116]⟩, .int .i64 0, .int .i64 0, .bool true, .int .i64 0, .slice (some a3) 4 4, .string ⟨#[98, 97, 115, 101, 46, 116, 101, 120, 116]⟩, .int .i64 0, .int .i64 0, .bool false, .int .i64 1, .slice (some a4) 4 4, .string ⟨#[98, 97, 115, 101, 46, 118, 97, 114]⟩, .int .i64 0, .int .i64 0, .bool false, .int .i64 4, .slice (some a5) 2 2, .string ⟨#[98, 97, 115, 101, 46, 102, 114, 97, 109, 101]⟩, .int .i64 1, .int .i64 65, .bool false, .int .i64 0, .slice (some a6) 3 3] 27 (0, 0))
set_option maxHeartbeats 2000000 in
theorem rows_any (w : World) : Calls Try.prog 6 #[] w fun e w' => ∃ b, e = .returned (.slice (some ⟨b, 0, none⟩) 7 7) ∧ RowsAt w' b ∧ Below w.heap.size w w' := by
  have hmf : ∀ (fn : Fn) (first cap : Array Value) (w : World), (Instr.makeFunc fn first cap).run Try.prog w = .ok (.func fn first cap) w := fun _ _ _ _ => rfl
  go_enter Try.func6, Try.ntmps6
  go_wp2_with fail
  refine (lit_any _ _ _ _).mono ?_
  rintro e w0 ⟨a0, rfl, hb⟩
  have hb0 := hb
  clear hb
  go_wp2_with fail
  refine (lit_any _ _ _ _).mono ?_
  rintro e w1 ⟨a1, rfl, hb⟩
  have hb1 := below_step hb0 hb
  clear hb
  clear hb0
  go_wp2_with fail
  refine (lit_any _ _ _ _).mono ?_
  rintro e w2 ⟨a2, rfl, hb⟩
  have hb2 := below_step hb1 hb
  clear hb
  clear hb1
  go_wp2_with fail
  refine (lit_any _ _ _ _).mono ?_
  rintro e w3 ⟨a3, rfl, hb⟩
  have hb3 := below_step hb2 hb
  clear hb
  clear hb2
  go_wp2_with fail
  refine (lit_any _ _ _ _).mono ?_
  rintro e w4 ⟨a4, rfl, hb⟩
  have hb4 := below_step hb3 hb
  clear hb
  clear hb3
  go_wp2_with fail
  go_ret
  refine ⟨_, rfl, ⟨a0, a1, a2, a3, a4, ⟨w4.heap.size, 0, none⟩, ⟨w4.heap.size + 1, 0, none⟩, ?_⟩, ((hb4.trans ((alloc_below w4 _).mono hb4.size)).alloc (by have := hb4.size; simp; omega) _).alloc (by have := hb4.size; simp; omega) _⟩
  have h := heap_alloc_new ((w4.alloc (.cells #[.string ⟨#[85, 115, 101, 114]⟩, .string ⟨#[80, 117, 114, 101]⟩] 9)).alloc (.cells #[.string ⟨#[80, 117, 114, 101]⟩, .string ⟨#[84, 111, 116, 97, 108]⟩, .string ⟨#[70, 114, 97, 109, 101, 100]⟩] 9))
  simp only [World.size_alloc] at h
  exact h _
theorem RowsAt.r0 {w : World} {b : Nat} (h : RowsAt w b) : ∃ a : Addr, w.cell? ⟨b, 0, none⟩ = some (.string ⟨#[98, 97, 115, 101, 46, 117, 110, 105, 116]⟩) ∧ w.cell? ⟨b, 1, none⟩ = some (.int .i64 0) ∧ w.cell? ⟨b, 2, none⟩ = some (.int .i64 0) ∧ w.cell? ⟨b, 3, none⟩ = some (.bool false) ∧ w.cell? ⟨b, 4, none⟩ = some (.int .i64 0) ∧ w.cell? ⟨b, 5, none⟩ = some (.slice (some a) 4 4) := by
  obtain ⟨a0, a1, a2, a3, a4, a5, a6, h⟩ := h
  exact ⟨a0, (heapcell h 0).1, (heapcell h 1).1, (heapcell h 2).1, (heapcell h 3).1, (heapcell h 4).1, (heapcell h 5).1⟩
theorem RowsAt.r1 {w : World} {b : Nat} (h : RowsAt w b) : ∃ a : Addr, w.cell? ⟨b, 6, none⟩ = some (.string ⟨#[98, 97, 115, 101, 46, 121, 101, 115]⟩) ∧ w.cell? ⟨b, 7, none⟩ = some (.int .i64 0) ∧ w.cell? ⟨b, 8, none⟩ = some (.int .i64 0) ∧ w.cell? ⟨b, 9, none⟩ = some (.bool false) ∧ w.cell? ⟨b, 10, none⟩ = some (.int .i64 0) ∧ w.cell? ⟨b, 11, none⟩ = some (.slice (some a) 4 4) := by
  obtain ⟨a0, a1, a2, a3, a4, a5, a6, h⟩ := h
  exact ⟨a1, (heapcell h 6).1, (heapcell h 7).1, (heapcell h 8).1, (heapcell h 9).1, (heapcell h 10).1, (heapcell h 11).1⟩
theorem RowsAt.r2 {w : World} {b : Nat} (h : RowsAt w b) : ∃ a : Addr, w.cell? ⟨b, 12, none⟩ = some (.string ⟨#[98, 97, 115, 101, 46, 110, 111]⟩) ∧ w.cell? ⟨b, 13, none⟩ = some (.int .i64 0) ∧ w.cell? ⟨b, 14, none⟩ = some (.int .i64 0) ∧ w.cell? ⟨b, 15, none⟩ = some (.bool false) ∧ w.cell? ⟨b, 16, none⟩ = some (.int .i64 0) ∧ w.cell? ⟨b, 17, none⟩ = some (.slice (some a) 4 4) := by
  obtain ⟨a0, a1, a2, a3, a4, a5, a6, h⟩ := h
  exact ⟨a2, (heapcell h 12).1, (heapcell h 13).1, (heapcell h 14).1, (heapcell h 15).1, (heapcell h 16).1, (heapcell h 17).1⟩
theorem RowsAt.r3 {w : World} {b : Nat} (h : RowsAt w b) : ∃ a : Addr, w.cell? ⟨b, 18, none⟩ = some (.string ⟨#[98, 97, 115, 101, 46, 105, 110, 116]⟩) ∧ w.cell? ⟨b, 19, none⟩ = some (.int .i64 0) ∧ w.cell? ⟨b, 20, none⟩ = some (.int .i64 0) ∧ w.cell? ⟨b, 21, none⟩ = some (.bool true) ∧ w.cell? ⟨b, 22, none⟩ = some (.int .i64 0) ∧ w.cell? ⟨b, 23, none⟩ = some (.slice (some a) 4 4) := by
  obtain ⟨a0, a1, a2, a3, a4, a5, a6, h⟩ := h
  exact ⟨a3, (heapcell h 18).1, (heapcell h 19).1, (heapcell h 20).1, (heapcell h 21).1, (heapcell h 22).1, (heapcell h 23).1⟩
theorem RowsAt.r4 {w : World} {b : Nat} (h : RowsAt w b) : ∃ a : Addr, w.cell? ⟨b, 24, none⟩ = some (.string ⟨#[98, 97, 115, 101, 46, 116, 101, 120, 116]⟩) ∧ w.cell? ⟨b, 25, none⟩ = some (.int .i64 0) ∧ w.cell? ⟨b, 26, none⟩ = some (.int .i64 0) ∧ w.cell? ⟨b, 27, none⟩ = some (.bool false) ∧ w.cell? ⟨b, 28, none⟩ = some (.int .i64 1) ∧ w.cell? ⟨b, 29, none⟩ = some (.slice (some a) 4 4) := by
  obtain ⟨a0, a1, a2, a3, a4, a5, a6, h⟩ := h
  exact ⟨a4, (heapcell h 24).1, (heapcell h 25).1, (heapcell h 26).1, (heapcell h 27).1, (heapcell h 28).1, (heapcell h 29).1⟩
theorem RowsAt.r5 {w : World} {b : Nat} (h : RowsAt w b) : ∃ a : Addr, w.cell? ⟨b, 30, none⟩ = some (.string ⟨#[98, 97, 115, 101, 46, 118, 97, 114]⟩) ∧ w.cell? ⟨b, 31, none⟩ = some (.int .i64 0) ∧ w.cell? ⟨b, 32, none⟩ = some (.int .i64 0) ∧ w.cell? ⟨b, 33, none⟩ = some (.bool false) ∧ w.cell? ⟨b, 34, none⟩ = some (.int .i64 4) ∧ w.cell? ⟨b, 35, none⟩ = some (.slice (some a) 2 2) := by
  obtain ⟨a0, a1, a2, a3, a4, a5, a6, h⟩ := h
  exact ⟨a5, (heapcell h 30).1, (heapcell h 31).1, (heapcell h 32).1, (heapcell h 33).1, (heapcell h 34).1, (heapcell h 35).1⟩
theorem RowsAt.r6 {w : World} {b : Nat} (h : RowsAt w b) : ∃ a : Addr, w.cell? ⟨b, 36, none⟩ = some (.string ⟨#[98, 97, 115, 101, 46, 102, 114, 97, 109, 101]⟩) ∧ w.cell? ⟨b, 37, none⟩ = some (.int .i64 1) ∧ w.cell? ⟨b, 38, none⟩ = some (.int .i64 65) ∧ w.cell? ⟨b, 39, none⟩ = some (.bool false) ∧ w.cell? ⟨b, 40, none⟩ = some (.int .i64 0) ∧ w.cell? ⟨b, 41, none⟩ = some (.slice (some a) 3 3) := by
  obtain ⟨a0, a1, a2, a3, a4, a5, a6, h⟩ := h
  exact ⟨a6, (heapcell h 36).1, (heapcell h 37).1, (heapcell h 38).1, (heapcell h 39).1, (heapcell h 40).1, (heapcell h 41).1⟩
theorem RowsAt.below {w w' : World} {b : Nat} (h : RowsAt w b) (hb : Below w.heap.size w w') : RowsAt w' b := by
  obtain ⟨a0, a1, a2, a3, a4, a5, a6, h⟩ := h
  exact ⟨a0, a1, a2, a3, a4, a5, a6, heap_keep h hb⟩
end

section
open Go.RowKit
set_option maxRecDepth 100000
/-- Handles that hold nodes, in a row. -/
def HsArg (w : World) (hs : List Nat) (v : Value) : Prop := ∃ la lc, v = .slice la hs.length lc ∧ (0 < hs.length → ∃ g, la = some ⟨g, 0, none⟩ ∧ ∀ (j b : Nat), hs[j]? = some b → w.cell? ⟨g, j, none⟩ = some (.pointer (some ⟨b, 0, none⟩))) ∧ ∀ b ∈ hs, ∃ t u, HdAt w b t u
theorem HsArg.below {w w' : World} {hs : List Nat} {v : Value} (h : HsArg w hs v) (hb : Below w.heap.size w w') : HsArg w' hs v := by
  obtain ⟨la, lc, rfl, h1, h2⟩ := h
  refine ⟨la, lc, rfl, fun h0 => ?_, fun b hb' => ?_⟩
  · obtain ⟨g, e, h3⟩ := h1 h0
    exact ⟨g, e, fun j b hj => cell_stepA (h3 j b hj) hb⟩
  · obtain ⟨t, u, h3⟩ := h2 b hb'
    exact ⟨t, u, heap_keep h3 hb⟩
def cntE (n : Nat) : Int := if 1 ≤ n ∧ n ≤ 65 then 0 else 11
def TreeF (w : World) (T : Nat) : Prop := w.heap[T]? = some (.cells #[.string ⟨#[98, 97, 115, 101, 46, 102, 114, 97, 109, 101]⟩, .int .i64 0, .string ⟨#[]⟩, .slice none 0 0] 36 (0, 0))
def FtW (w : World) (hs : List Nat) (v : Value) (T D : Nat) (a : Addr) (wq : World) : Prop := TreeF wq T ∧ wq.heap[D]? = some (.cells #[.string ⟨#[98, 97, 115, 101, 46, 102, 114, 97, 109, 101]⟩, .int .i64 1, .int .i64 65, .bool false, .int .i64 0, .slice (some a) 3 3] 27 (0, 0)) ∧ Below w.heap.size w wq ∧ HsArg wq hs v
theorem below_allocA {w w1 : World} (h : Below w.heap.size w w1) (o : Obj) : Below w.heap.size w (w1.alloc o) := h.alloc h.size o
set_option maxHeartbeats 4000000 in
theorem fits_frame (w : World) (hs : List Nat) (v : Value) (hv : HsArg w hs v) (hn : hs.length ≤ 2000) :
    Calls Try.prog 23 #[.agg #[.string ⟨#[98, 97, 115, 101, 46, 102, 114, 97, 109, 101]⟩, .int .i64 0, .string ⟨#[]⟩, .slice none 0 0], v] w (RetB w (.int .i64 (cntE hs.length))) := by
  have g := hv
  obtain ⟨la, lc, rfl, _, _⟩ := g
  have HV := Lib.hid hv
  clear hv
  go_enter Try.func23, Try.ntmps23
  go_wp2_with fail
  have hb0 := alloc_below w (.cells #[.string ⟨#[98, 97, 115, 101, 46, 102, 114, 97, 109, 101]⟩, .int .i64 0, .string ⟨#[]⟩, .slice none 0 0] 36)
  have ht0 := heap_alloc_new w (.cells #[.string ⟨#[98, 97, 115, 101, 46, 102, 114, 97, 109, 101]⟩, .int .i64 0, .string ⟨#[]⟩, .slice none 0 0] 36)
  generalize (w.alloc (.cells #[.string ⟨#[98, 97, 115, 101, 46, 102, 114, 97, 109, 101]⟩, .int .i64 0, .string ⟨#[]⟩, .slice none 0 0] 36)) = w0 at hb0 ht0 ⊢
  obtain ⟨T, hT⟩ : ∃ T, T = w.heap.size := ⟨_, rfl⟩
  have HN := Lib.hid hT
  rw [← hT] at ht0 ⊢
  clear hT
  refine (rows_any w0).mono ?_
  rintro e w1 ⟨rb, rfl, hrows, hb1⟩
  have HB1 := Lib.hid (hb0.trans (hb1.mono hb0.size))
  have HR1 := Lib.hid hrows
  have HT1 : Hid (TreeF w1 T) := Lib.hid (heap_keep ht0 hb1)
  clear hb0 ht0 hb1 hrows
  go_wp2_with fail
  go_loopw [11] (fun iv wr => ∃ (i : Nat) (x : Int), i ≤ 6 ∧ x = i ∧ iv = .int .i64 x ∧ Hid (RowsAt wr rb) ∧ Hid (TreeF wr T) ∧ Hid (Below w.heap.size w wr))
    (fun iv _ => 6 - (intOf iv).toNat)
  case atStart => exact ⟨0, 0, by omega, rfl, rfl, HR1, HT1, HB1⟩
  case round =>
    obtain ⟨i, x, hi, hx, rfl, HR, HTt, HB⟩ := hrel
    obtain ⟨y0, _⟩ := heapcell HTt.out 0
    obtain ⟨y1, _⟩ := heapcell HTt.out 1
    obtain ⟨y2, _⟩ := heapcell HTt.out 2
    have hTl : T < wr.heap.size := (Array.getElem?_eq_some_iff.1 HTt.out).1
    rcases (by omega : i = 0 ∨ i = 1 ∨ i = 2 ∨ i = 3 ∨ i = 4 ∨ i = 5 ∨ i = 6) with rfl | rfl | rfl | rfl | rfl | rfl | rfl
    · obtain rfl : x = 0 := by omega
      clear hx hi
      obtain ⟨a, c0, c1, c2, c3, c4, c5⟩ := HR.out.r0
      go_wp2_with fail
      go_roundw
      case rel => exact ⟨1, 1, by omega, rfl, by go_num, Lib.hid (HR.out.below (alloc_below wr _)), Lib.hid (heap_keep HTt.out (alloc_below wr _)), Lib.hid (below_allocA HB.out _)⟩
      case measure => simp [intOf]
    · obtain rfl : x = 1 := by omega
      clear hx hi
      obtain ⟨a, c0, c1, c2, c3, c4, c5⟩ := HR.out.r1
      go_wp2_with fail
      go_roundw
      case rel => exact ⟨2, 2, by omega, rfl, by go_num, Lib.hid (HR.out.below (alloc_below wr _)), Lib.hid (heap_keep HTt.out (alloc_below wr _)), Lib.hid (below_allocA HB.out _)⟩
      case measure => simp [intOf]
    · obtain rfl : x = 2 := by omega
      clear hx hi
      obtain ⟨a, c0, c1, c2, c3, c4, c5⟩ := HR.out.r2
      go_wp2_with fail
      go_roundw
      case rel => exact ⟨3, 3, by omega, rfl, by go_num, Lib.hid (HR.out.below (alloc_below wr _)), Lib.hid (heap_keep HTt.out (alloc_below wr _)), Lib.hid (below_allocA HB.out _)⟩
      case measure => simp [intOf]
    · obtain rfl : x = 3 := by omega
      clear hx hi
      obtain ⟨a, c0, c1, c2, c3, c4, c5⟩ := HR.out.r3
      go_wp2_with fail
      go_roundw
      case rel => exact ⟨4, 4, by omega, rfl, by go_num, Lib.hid (HR.out.below (alloc_below wr _)), Lib.hid (heap_keep HTt.out (alloc_below wr _)), Lib.hid (below_allocA HB.out _)⟩
      case measure => simp [intOf]
    · obtain rfl : x = 4 := by omega
      clear hx hi
      obtain ⟨a, c0, c1, c2, c3, c4, c5⟩ := HR.out.r4
      go_wp2_with fail
      go_roundw
      case rel => exact ⟨5, 5, by omega, rfl, by go_num, Lib.hid (HR.out.below (alloc_below wr _)), Lib.hid (heap_keep HTt.out (alloc_below wr _)), Lib.hid (below_allocA HB.out _)⟩
      case measure => simp [intOf]
    · obtain rfl : x = 5 := by omega
      clear hx hi
      obtain ⟨a, c0, c1, c2, c3, c4, c5⟩ := HR.out.r5
      go_wp2_with fail
      go_roundw
      case rel => exact ⟨6, 6, by omega, rfl, by go_num, Lib.hid (HR.out.below (alloc_below wr _)), Lib.hid (heap_keep HTt.out (alloc_below wr _)), Lib.hid (below_allocA HB.out _)⟩
      case measure => simp [intOf]
    · obtain rfl : x = 6 := by omega
      clear hx hi
      obtain ⟨a, c0, c1, c2, c3, c4, c5⟩ := HR.out.r6
      go_wp2_with fail
      have hb5 := alloc_below wr (.cells #[.string ⟨#[98, 97, 115, 101, 46, 102, 114, 97, 109, 101]⟩, .int .i64 1, .int .i64 65, .bool false, .int .i64 0, .slice (some a) 3 3] 27)
      have hd5 := heap_alloc_new wr (.cells #[.string ⟨#[98, 97, 115, 101, 46, 102, 114, 97, 109, 101]⟩, .int .i64 1, .int .i64 65, .bool false, .int .i64 0, .slice (some a) 3 3] 27)
      have ht5 : TreeF (wr.alloc (.cells #[.string ⟨#[98, 97, 115, 101, 46, 102, 114, 97, 109, 101]⟩, .int .i64 1, .int .i64 65, .bool false, .int .i64 0, .slice (some a) 3 3] 27)) T := heap_keep HTt.out hb5
      generalize (wr.alloc (.cells #[.string ⟨#[98, 97, 115, 101, 46, 102, 114, 97, 109, 101]⟩, .int .i64 1, .int .i64 65, .bool false, .int .i64 0, .slice (some a) 3 3] 27)) = w5 at hb5 hd5 ht5 ⊢
      generalize wr.heap.size = D at hd5 ⊢
      have HB5 := Lib.hid (HB.out.trans (hb5.mono HB.out.size))
      have HF : Hid (FtW w hs (.slice la hs.length lc) T D a w5) := Lib.hid ⟨ht5, hd5, HB5.out, HV.out.below HB5.out⟩
      clear hb5 hd5 ht5 c0 c1 c2 c3 c4 c5 HR HTt HB hTl y0 y1 y2 HB5
      go_loopw [22] (fun jv wq => ∃ j : Nat, j ≤ hs.length ∧ jv = .int .i64 j ∧ Hid (FtW w hs (.slice la hs.length lc) T D a wq)) (fun jv _ => hs.length - (intOf jv).toNat)
      case atStart => exact ⟨0, by omega, rfl, HF⟩
      case round =>
        obtain ⟨j, hj, rfl, HF⟩ := hrel
        obtain ⟨y1, _⟩ := heapcell HF.out.1 1
        obtain ⟨y2, _⟩ := heapcell HF.out.1 2
        obtain ⟨d1, _⟩ := heapcell HF.out.2.1 1
        obtain ⟨d2, _⟩ := heapcell HF.out.2.1 2
        obtain ⟨d3, _⟩ := heapcell HF.out.2.1 3
        obtain ⟨d4, _⟩ := heapcell HF.out.2.1 4
        by_cases hlt : j < hs.length
        · have hltI : (j : Int) < (hs.length : Int) := by omega
          obtain ⟨la', lc', e, h1, h2⟩ := HF.out.2.2.2
          simp only [Value.slice.injEq, true_and] at e
          obtain ⟨rfl, rfl⟩ := e
          obtain ⟨g, rfl, h3⟩ := h1 (by omega)
          obtain ⟨t, u, hd⟩ := h2 hs[j] (List.getElem_mem hlt)
          have x0 := h3 j hs[j] (List.getElem?_eq_getElem hlt)
          generalize hs[j] = b at hd x0
          have HD := Lib.hid hd
          clear h1 h2 h3 hd
          go_wp2_with fail
          refine (holds_any _ b t u HD.out).mono ?_
          rintro e w' ⟨rfl, rfl⟩
          go_wp2_with fail
          go_roundw
          case rel => exact ⟨j + 1, by omega, by go_num, HF⟩
          case measure => simp [intOf]; omega
        · obtain rfl : j = hs.length := by omega
          have hltI : ¬ ((hs.length : Int) < (hs.length : Int)) := by omega
          by_cases h1 : hs.length < 1
          · have h1I : (hs.length : Int) < 1 := by omega
            have hc : cntE hs.length = 11 := if_neg (by omega)
            have HC := Lib.hid hc
            clear hc
            go_wp2_with fail
            go_ret
            exact ⟨by rw [HC.out]; rfl, HF.out.2.2.1⟩
          · by_cases h2 : 65 < hs.length
            · have h1I : ¬ (hs.length : Int) < 1 := by omega
              have h2I : (65 : Int) < (hs.length : Int) := by omega
              have hc : cntE hs.length = 11 := if_neg (by omega)
              have HC := Lib.hid hc
              clear hc
              go_wp2_with fail
              go_ret
              exact ⟨by rw [HC.out]; rfl, HF.out.2.2.1⟩
            · have h1I : ¬ (hs.length : Int) < 1 := by omega
              have h2I : ¬ (65 : Int) < (hs.length : Int) := by omega
              have hc : cntE hs.length = 0 := if_pos (by omega)
              have HC := Lib.hid hc
              clear hc
              go_wp2_with fail
              go_ret
              exact ⟨by rw [HC.out]; rfl, HF.out.2.2.1⟩
end

section
open Go.RowKit
set_option maxRecDepth 100000
def TreeV (w : World) (T : Nat) (s : ByteArray) : Prop := w.heap[T]? = some (.cells #[.string ⟨#[98, 97, 115, 101, 46, 118, 97, 114]⟩, .int .i64 0, .string s, .slice none 0 0] 36 (0, 0))
def FvW (w : World) (s : ByteArray) (T D : Nat) (a : Addr) (wq : World) : Prop := TreeV wq T s ∧ wq.heap[D]? = some (.cells #[.string ⟨#[98, 97, 115, 101, 46, 118, 97, 114]⟩, .int .i64 0, .int .i64 0, .bool false, .int .i64 4, .slice (some a) 2 2] 27 (0, 0)) ∧ Below w.heap.size w wq
def useE (u : Bool) : Int := if u then 0 else 12
set_option maxHeartbeats 4000000 in
theorem fits_var (w : World) (s : ByteArray) (hs : s.size ≤ 16384) (u : Bool) (hu : ∀ w', Calls Try.prog 40 #[.string s] w' (RetB w' (.bool u))) :
    Calls Try.prog 23 #[.agg #[.string ⟨#[98, 97, 115, 101, 46, 118, 97, 114]⟩, .int .i64 0, .string s, .slice none 0 0], .slice none 0 0] w (RetB w (.int .i64 (useE u))) := by
  have HU := Lib.hid hu
  clear hu
  go_enter Try.func23, Try.ntmps23
  go_wp2_with fail
  have hb0 := alloc_below w (.cells #[.string ⟨#[98, 97, 115, 101, 46, 118, 97, 114]⟩, .int .i64 0, .string s, .slice none 0 0] 36)
  have ht0 : TreeV (w.alloc (.cells #[.string ⟨#[98, 97, 115, 101, 46, 118, 97, 114]⟩, .int .i64 0, .string s, .slice none 0 0] 36)) w.heap.size s := heap_alloc_new w (.cells #[.string ⟨#[98, 97, 115, 101, 46, 118, 97, 114]⟩, .int .i64 0, .string s, .slice none 0 0] 36)
  generalize (w.alloc (.cells #[.string ⟨#[98, 97, 115, 101, 46, 118, 97, 114]⟩, .int .i64 0, .string s, .slice none 0 0] 36)) = w0 at hb0 ht0 ⊢
  obtain ⟨T, hT⟩ : ∃ T, T = w.heap.size := ⟨_, rfl⟩
  rw [← hT] at ht0 ⊢
  clear hT
  refine (rows_any w0).mono ?_
  rintro e w1 ⟨rb, rfl, hrows, hb1⟩
  have HB1 := Lib.hid (hb0.trans (hb1.mono hb0.size))
  have HR1 := Lib.hid hrows
  have HT1 : Hid (TreeV w1 T s) := Lib.hid (heap_keep ht0 hb1)
  clear hb0 ht0 hb1 hrows
  go_wp2_with fail
  go_loopw [11] (fun iv wr => ∃ (i : Nat) (x : Int), i ≤ 5 ∧ x = i ∧ iv = .int .i64 x ∧ Hid (RowsAt wr rb) ∧ Hid (TreeV wr T s) ∧ Hid (Below w.heap.size w wr))
    (fun iv _ => 5 - (intOf iv).toNat)
  case atStart => exact ⟨0, 0, by omega, rfl, rfl, HR1, HT1, HB1⟩
  case round =>
    obtain ⟨i, x, hi, hx, rfl, HR, HTt, HB⟩ := hrel
    obtain ⟨y0, _⟩ := heapcell HTt.out 0
    have hTl : T < wr.heap.size := (Array.getElem?_eq_some_iff.1 HTt.out).1
    rcases (by omega : i = 0 ∨ i = 1 ∨ i = 2 ∨ i = 3 ∨ i = 4 ∨ i = 5) with rfl | rfl | rfl | rfl | rfl | rfl
    · obtain rfl : x = 0 := by omega
      clear hx hi
      obtain ⟨a, c0, c1, c2, c3, c4, c5⟩ := HR.out.r0
      go_wp2_with fail
      go_roundw
      case rel => exact ⟨1, 1, by omega, rfl, by go_num, Lib.hid (HR.out.below (alloc_below wr _)), Lib.hid (heap_keep HTt.out (alloc_below wr _)), Lib.hid (below_allocA HB.out _)⟩
      case measure => simp [intOf]
    · obtain rfl : x = 1 := by omega
      clear hx hi
      obtain ⟨a, c0, c1, c2, c3, c4, c5⟩ := HR.out.r1
      go_wp2_with fail
      go_roundw
      case rel => exact ⟨2, 2, by omega, rfl, by go_num, Lib.hid (HR.out.below (alloc_below wr _)), Lib.hid (heap_keep HTt.out (alloc_below wr _)), Lib.hid (below_allocA HB.out _)⟩
      case measure => simp [intOf]
    · obtain rfl : x = 2 := by omega
      clear hx hi
      obtain ⟨a, c0, c1, c2, c3, c4, c5⟩ := HR.out.r2
      go_wp2_with fail
      go_roundw
      case rel => exact ⟨3, 3, by omega, rfl, by go_num, Lib.hid (HR.out.below (alloc_below wr _)), Lib.hid (heap_keep HTt.out (alloc_below wr _)), Lib.hid (below_allocA HB.out _)⟩
      case measure => simp [intOf]
    · obtain rfl : x = 3 := by omega
      clear hx hi
      obtain ⟨a, c0, c1, c2, c3, c4, c5⟩ := HR.out.r3
      go_wp2_with fail
      go_roundw
      case rel => exact ⟨4, 4, by omega, rfl, by go_num, Lib.hid (HR.out.below (alloc_below wr _)), Lib.hid (heap_keep HTt.out (alloc_below wr _)), Lib.hid (below_allocA HB.out _)⟩
      case measure => simp [intOf]
    · obtain rfl : x = 4 := by omega
      clear hx hi
      obtain ⟨a, c0, c1, c2, c3, c4, c5⟩ := HR.out.r4
      go_wp2_with fail
      go_roundw
      case rel => exact ⟨5, 5, by omega, rfl, by go_num, Lib.hid (HR.out.below (alloc_below wr _)), Lib.hid (heap_keep HTt.out (alloc_below wr _)), Lib.hid (below_allocA HB.out _)⟩
      case measure => simp [intOf]
    · obtain rfl : x = 5 := by omega
      clear hx hi
      obtain ⟨a, c0, c1, c2, c3, c4, c5⟩ := HR.out.r5
      go_wp2_with fail
      have hb5 := alloc_below wr (.cells #[.string ⟨#[98, 97, 115, 101, 46, 118, 97, 114]⟩, .int .i64 0, .int .i64 0, .bool false, .int .i64 4, .slice (some a) 2 2] 27)
      have hd5 := heap_alloc_new wr (.cells #[.string ⟨#[98, 97, 115, 101, 46, 118, 97, 114]⟩, .int .i64 0, .int .i64 0, .bool false, .int .i64 4, .slice (some a) 2 2] 27)
      have ht5 : TreeV (wr.alloc (.cells #[.string ⟨#[98, 97, 115, 101, 46, 118, 97, 114]⟩, .int .i64 0, .int .i64 0, .bool false, .int .i64 4, .slice (some a) 2 2] 27)) T s := heap_keep HTt.out hb5
      generalize (wr.alloc (.cells #[.string ⟨#[98, 97, 115, 101, 46, 118, 97, 114]⟩, .int .i64 0, .int .i64 0, .bool false, .int .i64 4, .slice (some a) 2 2] 27)) = w5 at hb5 hd5 ht5 ⊢
      generalize wr.heap.size = D at hd5 ⊢
      have HF : Hid (FvW w s T D a w5) := Lib.hid ⟨ht5, hd5, HB.out.trans (hb5.mono HB.out.size)⟩
      clear hb5 hd5 ht5 c0 c1 c2 c3 c4 c5 HR HTt HB hTl y0
      go_loopw [22] (fun jv wq => jv = .int .i64 0 ∧ Hid (FvW w s T D a wq)) (fun _ _ => 0)
      case atStart => exact ⟨rfl, HF⟩
      case round =>
        obtain ⟨rfl, HF⟩ := hrel
        obtain ⟨y1, _⟩ := heapcell HF.out.1 1
        obtain ⟨y2, _⟩ := heapcell HF.out.1 2
        obtain ⟨d1, _⟩ := heapcell HF.out.2.1 1
        obtain ⟨d2, _⟩ := heapcell HF.out.2.1 2
        obtain ⟨d3, _⟩ := heapcell HF.out.2.1 3
        obtain ⟨d4, _⟩ := heapcell HF.out.2.1 4
        have hsI : ¬ ((16384 : Int) < (s.size : Int)) := by omega
        go_wp2_with fail
        all_goals
          refine (HU.out _).mono ?_
          rintro e w6 ⟨rfl, hb6⟩
          have HB6 := Lib.hid (HF.out.2.2.trans (hb6.mono HF.out.2.2.size))
          clear hb6
          cases u
          · go_wp2_with fail
            go_ret
            exact ⟨rfl, HB6.out⟩
          · go_wp2_with fail
            go_ret
            exact ⟨rfl, HB6.out⟩
end
end Go.Proofs.Ytlpgfdhihimjaaa
