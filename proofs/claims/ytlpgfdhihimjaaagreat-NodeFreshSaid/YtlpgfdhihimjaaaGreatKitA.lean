/-
  Nodes, handles, the rows of the kit base, names and places, abilities, make, wrap: walks by the kit.
  Conditions: none.
-/
import Derived.Test.YtlpgfdhihimjaaaGreatProg
import Derived.WalkKit
import Derived.WalkLawsBesides
import Derived.WalkSpells
import Derived.ProofKit
import Derived.Lib.Hide
import Derived.Deep.AppendLies
import Derived.Deep.RegionLaw
import Derived.Deep.CutRange
import Derived.Deep.RegionHeld3
import Derived.StillTailTactics
import Derived.Maps.AppendAt
import Derived.Laws.RangeString
import Derived.Laws.EntriesVeiled
import Derived.Test.YtlpgfdhihimjaaaGreatEng
import Derived.Deep.RegionWith
set_option linter.unusedVariables false
set_option linter.unusedSimpArgs false
namespace Go.Proofs.YtlpgfdhihimjaaaGreat
section
open Go.RowKit
set_option maxRecDepth 100000
/-- A call that answers v and lays new memory alone. -/
def RetB (w : World) (v : Value) (e : Ending) (w' : World) : Prop := e = .returned v ∧ Below w.heap.size w w'
theorem heapcell {w : World} {b : Nat} {cs : Array Value} {t : TypeId} (h : w.heap[b]? = some (.cells cs t (0, 0))) (j : Nat) : w.cell? ⟨b, j, none⟩ = cs[j]? ∧ w.frozen? ⟨b, j, none⟩ = false := by
  constructor
  · unfold World.cell?; rw [h]; simp
  · unfold World.frozen?; rw [h]; simp
theorem cell_stepA {w w' : World} {a : Addr} {v : Value} (h : w.cell? a = some v) (hb : Below w.heap.size w w') : w'.cell? a = some v := (hb.cell (World.block_lt_of_cell? w a h)).trans h
theorem heap_alloc_new (w : World) (o : Obj) : (w.alloc o).heap[w.heap.size]? = some o := by
  show (w.heap.push o)[w.heap.size]? = some o
  simp
theorem alloc_below (w : World) (o : Obj) : Below w.heap.size w (w.alloc o) := (Below.refl w.heap.size w).alloc (Nat.le_refl _) o
theorem below_step {W w w' : World} (h : Below W.heap.size W w) (hb : Below w.heap.size w w') : Below W.heap.size W w' := h.trans (hb.mono h.size)
theorem heap_keep {w w' : World} {b : Nat} {o : Obj} (h : w.heap[b]? = some o) (hb : Below w.heap.size w w') : w'.heap[b]? = some o := (hb.block b (Array.getElem?_eq_some_iff.1 h).1).trans h
/-- 'New': an error that bears a number. -/
theorem new_any (w : World) (c : Int) (hc : c ≠ 0) : Calls Tryz.prog 25 #[.int .i64 c] w fun e w' => e = .returned (.iface 152 (.pointer (some ⟨w.heap.size, 0, none⟩))) ∧ w' = w.alloc (.cells #[.int .i64 c] 154) := by
  go_enter Tryz.func25, Tryz.ntmps25
  go_wp2_with fail
  go_ret
  exact ⟨rfl, rfl⟩
/-- A handle that holds a node. -/
def HdAt (w : World) (b : Nat) (t : TypeId) (u : Value) : Prop := w.heap[b]? = some (.cells #[.iface t u] 121 (0, 0))
theorem node_any (w : World) (b : Nat) (t : TypeId) (u : Value) (h : HdAt w b t u) : Calls Tryz.prog 11 #[.pointer (some ⟨b, 0, none⟩)] w fun e w' => e = .returned (.iface t u) ∧ w' = w := by
  obtain ⟨h0, _⟩ := heapcell h 0
  go_enter Tryz.func11, Tryz.ntmps11
  go_wp2_with fail
  go_ret
  exact ⟨rfl, rfl⟩
theorem holds_any (w : World) (b : Nat) (t : TypeId) (u : Value) (h : HdAt w b t u) : Calls Tryz.prog 31 #[.pointer (some ⟨b, 0, none⟩)] w fun e w' => e = .returned (.bool true) ∧ w' = w := by
  go_enter Tryz.func31, Tryz.ntmps31
  go_wp2_with fail
  refine (node_any w b t u h).mono ?_
  rintro e w' ⟨rfl, rfl⟩
  go_wp2_with fail
  go_ret
  exact ⟨rfl, rfl⟩
theorem of_any (w : World) (t : TypeId) (u : Value) : Calls Tryz.prog 27 #[.iface t u] w fun e w' => e = .returned (.pointer (some ⟨w.heap.size, 0, none⟩)) ∧ w' = w.alloc (.cells #[.iface t u] 121) := by
  go_enter Tryz.func27, Tryz.ntmps27
  go_wp2_with fail
  go_ret
  exact ⟨rfl, rfl⟩
end

section
open Go.RowKit
set_option maxRecDepth 100000
theorem width_posN (s : ByteArray) (pos : Nat) (h : pos < s.size) : 1 ≤ (Utf8.decode s pos).2 := by
  simp only [Utf8.decode]
  repeat' split
  all_goals simp
theorem run_next_any {P : Program} (w : World) (s : ByteArray) (pos : Nat) (ty : TypeId) (h : pos < s.size) :
    (Instr.next (.pointer (some ⟨w.heap.size, 0, none⟩)) true ty).run P (w.iter s pos) =
      .ok (.tuple #[.bool true, .int .i64 pos, .int .i32 ((Utf8.decode s pos).1 : Nat)]) (w.iter s (pos + (Utf8.decode s pos).2)) := by
  simp only [Instr.next, getObj, setObj, Sem.run_bind, Sem.run, World.iter_heap, Result.andThen, h, if_true, World.iter_set]
  simp [goInt, Sem.run, World.iter_heap, World.iter_set]
/-- Letters, digits, of a rune. -/
def smallI (c : Int) : Bool := decide (97 ≤ c ∧ c ≤ 122)
def digitI (c : Int) : Bool := decide (48 ≤ c ∧ c ≤ 57)
def letterI (c : Int) : Bool := smallI c || (decide (65 ≤ c ∧ c ≤ 90) || decide (c = 95))
def restI (c : Int) : Bool := letterI c || digitI c
theorem digit32 (w : World) (c : Int) : Calls Tryz.prog 89 #[.int .i32 c] w fun e w' => e = .returned (.bool (digitI c)) ∧ w' = w := by
  go_enter Tryz.func89, Tryz.ntmps89
  by_cases h1 : 48 ≤ c
  · by_cases h2 : c ≤ 57
    · go_wp2_with fail
      go_ret
      exact ⟨by simp [digitI]; omega, rfl⟩
    · go_wp2_with fail
      go_ret
      exact ⟨by simp [digitI]; omega, rfl⟩
  · go_wp2_with fail
    go_ret
    exact ⟨by simp [digitI]; omega, rfl⟩
theorem small32 (w : World) (c : Int) : Calls Tryz.prog 86 #[.int .i32 c] w fun e w' => e = .returned (.bool (smallI c)) ∧ w' = w := by
  go_enter Tryz.func86, Tryz.ntmps86
  by_cases h1 : 97 ≤ c
  · by_cases h2 : c ≤ 122
    · go_wp2_with fail
      go_ret
      exact ⟨by simp [smallI]; omega, rfl⟩
    · go_wp2_with fail
      go_ret
      exact ⟨by simp [smallI]; omega, rfl⟩
  · go_wp2_with fail
    go_ret
    exact ⟨by simp [smallI]; omega, rfl⟩
theorem letter32 (w : World) (c : Int) : Calls Tryz.prog 85 #[.int .i32 c] w fun e w' => e = .returned (.bool (letterI c)) ∧ w' = w := by
  go_enter Tryz.func85, Tryz.ntmps85
  go_wp2_with fail
  refine (small32 w c).mono ?_
  rintro e w' ⟨rfl, rfl⟩
  cases hs : smallI c
  · by_cases h1 : 65 ≤ c
    · by_cases h2 : c ≤ 90
      · go_wp2_with fail
        go_ret
        exact ⟨by simp [letterI, hs]; omega, rfl⟩
      · by_cases h3 : c = 95
        · subst h3
          go_wp2_with fail
          go_ret
          exact ⟨by simp [letterI, hs], rfl⟩
        · have h4 : (c == 95) = false := by simpa using h3
          go_wp2_with fail
          go_ret
          exact ⟨by simp [letterI, hs, h2, h3]; omega, rfl⟩
    · have h4 : (c == 95) = false := by simp; omega
      go_wp2_with fail
      go_ret
      exact ⟨by simp [letterI, hs]; omega, rfl⟩
  · go_wp2_with fail
    go_ret
    exact ⟨by simp [letterI, hs], rfl⟩
theorem rest32 (w : World) (c : Int) (b : Nat) (hc : w.cell? ⟨b, 0, none⟩ = some (.func (.func 85) #[] #[])) : Calls Tryz.prog 88 #[.int .i32 c, .pointer (some ⟨b, 0, none⟩)] w fun e w' => e = .returned (.bool (restI c)) ∧ w' = w := by
  go_enter Tryz.func88, Tryz.ntmps88
  go_wp2_with fail
  refine (letter32 w c).mono ?_
  rintro e w' ⟨rfl, rfl⟩
  cases hs : letterI c
  · go_wp2_with fail
    refine (digit32 _ c).mono ?_
    rintro e w' ⟨rfl, rfl⟩
    go_wp2_with fail
    go_ret
    exact ⟨by simp [restI, hs], rfl⟩
  · go_wp2_with fail
    go_ret
    exact ⟨by simp [restI, hs], rfl⟩
/-- A byte of a name. -/
def NameOk (s : ByteArray) : Prop := 1 ≤ s.size ∧ s.size ≤ 32 ∧ ∀ i (h : i < s.size), restI ((s[i]'h).toNat : Int) = true ∧ (i = 0 → letterI ((s[i]'h).toNat : Int) = true)
theorem restI_lt {c : Int} (h : restI c = true) : c < 128 := by
  simp [restI, letterI, smallI, digitI] at h; omega
theorem NameOk.rune {s : ByteArray} (h : NameOk s) {p : Nat} (hp : p < s.size) : restI ((Utf8.decode s p).1 : Nat) = true ∧ (p = 0 → letterI ((Utf8.decode s p).1 : Nat) = true) := by
  have h1 := h.2.2 p hp
  have h2 := restI_lt h1.1
  rw [decode_ascii s p hp (by omega)]
  exact h1
end

section
open Go.RowKit
set_option maxRecDepth 100000
theorem lit_any (w : World) (k : ByteArray) (n : Bool) (t : Int) : Calls Tryz.prog 83 #[.string k, .bool n, .int .i64 t] w fun e w' => ∃ a, e = .returned (.agg #[.string k, .int .i64 0, .int .i64 0, .bool n, .int .i64 t, .slice (some a) 4 4]) ∧ Below w.heap.size w w' := by
  go_enter Tryz.func83, Tryz.ntmps83
  go_wp2_with fail
  exact bodyPost_ret (v := .agg #[.string k, .int .i64 0, .int .i64 0, .bool n, .int .i64 t, .slice (some ⟨w.heap.size + 1, 0, none⟩) 4 4]) (by simp [results, Tryz.results83, go_sem]) rfl ⟨_, rfl, (alloc_below w _).alloc (by simp) _⟩
/-- The rows of the kit base lie there. -/
def RowsAt (w : World) (b : Nat) : Prop := ∃ a0 a1 a2 a3 a4 a5 a6 : Addr, w.heap[b]? = some (.cells #[.string ⟨#[98, 97, 115, 101, 46, 117, 110, 105, 116]⟩, .int .i64 0, .int .i64 0, .bool false, .int .i64 0, .slice (some a0) 4 4, .string ⟨#[98, 97, 115, 101, 46, 121, 101, 115]⟩, .int .i64 0, .int .i64 0, .bool false, .int .i64 0, .slice (some a1) 4 4, .string ⟨#[98, 97, 115, 101, 46, 110, 111]⟩, .int .i64 0, .int .i64 0, .bool false, .int .i64 0, .slice (some a2) 4 4, .string ⟨#[98, 97, 115, 101, 46, 105, 110, 116]⟩, .int .i64 0, .int .i64 0, .bool true, .int .i64 0, .slice (some a3) 4 4, .string ⟨#[98, 97, 115, 101, 46, 116, 101, 120, 116]⟩, .int .i64 0, .int .i64 0, .bool false, .int .i64 1, .slice (some a4) 4 4, .string ⟨#[98, 97, 115, 101, 46, 118, 97, 114]⟩, .int .i64 0, .int .i64 0, .bool false, .int .i64 4, .slice (some a5) 2 2, .string ⟨#[98, 97, 115, 101, 46, 102, 114, 97, 109, 101]⟩, .int .i64 1, .int .i64 65, .bool false, .int .i64 0, .slice (some a6) 3 3] 151 (0, 0))
set_option maxHeartbeats 2000000 in
theorem rows_any (w : World) : Calls Tryz.prog 47 #[] w fun e w' => ∃ b, e = .returned (.slice (some ⟨b, 0, none⟩) 7 7) ∧ RowsAt w' b ∧ Below w.heap.size w w' := by
  have hmf : ∀ (fn : Fn) (first cap : Array Value) (w : World), (Instr.makeFunc fn first cap).run Tryz.prog w = .ok (.func fn first cap) w := fun _ _ _ _ => rfl
  go_enter Tryz.func47, Tryz.ntmps47
  go_wp2_with fail
  refine (lit_any _ _ _ _).mono ?_
  rintro e w0 ⟨a0, rfl, hb⟩
  have hb0 := hb
  clear hb
  go_wp2_with fail
  refine (lit_any _ _ _ _).mono ?_
  rintro e w1 ⟨a1, rfl, hb⟩
  have hb1 := below_step hb0 hb
  clear hb
  clear hb0
  go_wp2_with fail
  refine (lit_any _ _ _ _).mono ?_
  rintro e w2 ⟨a2, rfl, hb⟩
  have hb2 := below_step hb1 hb
  clear hb
  clear hb1
  go_wp2_with fail
  refine (lit_any _ _ _ _).mono ?_
  rintro e w3 ⟨a3, rfl, hb⟩
  have hb3 := below_step hb2 hb
  clear hb
  clear hb2
  go_wp2_with fail
  refine (lit_any _ _ _ _).mono ?_
  rintro e w4 ⟨a4, rfl, hb⟩
  have hb4 := below_step hb3 hb
  clear hb
  clear hb3
  go_wp2_with fail
  go_ret
  refine ⟨_, rfl, ⟨a0, a1, a2, a3, a4, ⟨w4.heap.size, 0, none⟩, ⟨w4.heap.size + 1, 0, none⟩, ?_⟩, ((hb4.trans ((alloc_below w4 _).mono hb4.size)).alloc (by have := hb4.size; simp; omega) _).alloc (by have := hb4.size; simp; omega) _⟩
  have h := heap_alloc_new ((w4.alloc (.cells #[.string ⟨#[85, 115, 101, 114]⟩, .string ⟨#[80, 117, 114, 101]⟩] 9)).alloc (.cells #[.string ⟨#[80, 117, 114, 101]⟩, .string ⟨#[84, 111, 116, 97, 108]⟩, .string ⟨#[70, 114, 97, 109, 101, 100]⟩] 9))
  simp only [World.size_alloc] at h
  exact h _
theorem RowsAt.r0 {w : World} {b : Nat} (h : RowsAt w b) : ∃ a : Addr, w.cell? ⟨b, 0, none⟩ = some (.string ⟨#[98, 97, 115, 101, 46, 117, 110, 105, 116]⟩) ∧ w.cell? ⟨b, 1, none⟩ = some (.int .i64 0) ∧ w.cell? ⟨b, 2, none⟩ = some (.int .i64 0) ∧ w.cell? ⟨b, 3, none⟩ = some (.bool false) ∧ w.cell? ⟨b, 4, none⟩ = some (.int .i64 0) ∧ w.cell? ⟨b, 5, none⟩ = some (.slice (some a) 4 4) := by
  obtain ⟨a0, a1, a2, a3, a4, a5, a6, h⟩ := h
  exact ⟨a0, (heapcell h 0).1, (heapcell h 1).1, (heapcell h 2).1, (heapcell h 3).1, (heapcell h 4).1, (heapcell h 5).1⟩
theorem RowsAt.r1 {w : World} {b : Nat} (h : RowsAt w b) : ∃ a : Addr, w.cell? ⟨b, 6, none⟩ = some (.string ⟨#[98, 97, 115, 101, 46, 121, 101, 115]⟩) ∧ w.cell? ⟨b, 7, none⟩ = some (.int .i64 0) ∧ w.cell? ⟨b, 8, none⟩ = some (.int .i64 0) ∧ w.cell? ⟨b, 9, none⟩ = some (.bool false) ∧ w.cell? ⟨b, 10, none⟩ = some (.int .i64 0) ∧ w.cell? ⟨b, 11, none⟩ = some (.slice (some a) 4 4) := by
  obtain ⟨a0, a1, a2, a3, a4, a5, a6, h⟩ := h
  exact ⟨a1, (heapcell h 6).1, (heapcell h 7).1, (heapcell h 8).1, (heapcell h 9).1, (heapcell h 10).1, (heapcell h 11).1⟩
theorem RowsAt.r2 {w : World} {b : Nat} (h : RowsAt w b) : ∃ a : Addr, w.cell? ⟨b, 12, none⟩ = some (.string ⟨#[98, 97, 115, 101, 46, 110, 111]⟩) ∧ w.cell? ⟨b, 13, none⟩ = some (.int .i64 0) ∧ w.cell? ⟨b, 14, none⟩ = some (.int .i64 0) ∧ w.cell? ⟨b, 15, none⟩ = some (.bool false) ∧ w.cell? ⟨b, 16, none⟩ = some (.int .i64 0) ∧ w.cell? ⟨b, 17, none⟩ = some (.slice (some a) 4 4) := by
  obtain ⟨a0, a1, a2, a3, a4, a5, a6, h⟩ := h
  exact ⟨a2, (heapcell h 12).1, (heapcell h 13).1, (heapcell h 14).1, (heapcell h 15).1, (heapcell h 16).1, (heapcell h 17).1⟩
theorem RowsAt.r3 {w : World} {b : Nat} (h : RowsAt w b) : ∃ a : Addr, w.cell? ⟨b, 18, none⟩ = some (.string ⟨#[98, 97, 115, 101, 46, 105, 110, 116]⟩) ∧ w.cell? ⟨b, 19, none⟩ = some (.int .i64 0) ∧ w.cell? ⟨b, 20, none⟩ = some (.int .i64 0) ∧ w.cell? ⟨b, 21, none⟩ = some (.bool true) ∧ w.cell? ⟨b, 22, none⟩ = some (.int .i64 0) ∧ w.cell? ⟨b, 23, none⟩ = some (.slice (some a) 4 4) := by
  obtain ⟨a0, a1, a2, a3, a4, a5, a6, h⟩ := h
  exact ⟨a3, (heapcell h 18).1, (heapcell h 19).1, (heapcell h 20).1, (heapcell h 21).1, (heapcell h 22).1, (heapcell h 23).1⟩
theorem RowsAt.r4 {w : World} {b : Nat} (h : RowsAt w b) : ∃ a : Addr, w.cell? ⟨b, 24, none⟩ = some (.string ⟨#[98, 97, 115, 101, 46, 116, 101, 120, 116]⟩) ∧ w.cell? ⟨b, 25, none⟩ = some (.int .i64 0) ∧ w.cell? ⟨b, 26, none⟩ = some (.int .i64 0) ∧ w.cell? ⟨b, 27, none⟩ = some (.bool false) ∧ w.cell? ⟨b, 28, none⟩ = some (.int .i64 1) ∧ w.cell? ⟨b, 29, none⟩ = some (.slice (some a) 4 4) := by
  obtain ⟨a0, a1, a2, a3, a4, a5, a6, h⟩ := h
  exact ⟨a4, (heapcell h 24).1, (heapcell h 25).1, (heapcell h 26).1, (heapcell h 27).1, (heapcell h 28).1, (heapcell h 29).1⟩
theorem RowsAt.r5 {w : World} {b : Nat} (h : RowsAt w b) : ∃ a : Addr, w.cell? ⟨b, 30, none⟩ = some (.string ⟨#[98, 97, 115, 101, 46, 118, 97, 114]⟩) ∧ w.cell? ⟨b, 31, none⟩ = some (.int .i64 0) ∧ w.cell? ⟨b, 32, none⟩ = some (.int .i64 0) ∧ w.cell? ⟨b, 33, none⟩ = some (.bool false) ∧ w.cell? ⟨b, 34, none⟩ = some (.int .i64 4) ∧ w.cell? ⟨b, 35, none⟩ = some (.slice (some a) 2 2) := by
  obtain ⟨a0, a1, a2, a3, a4, a5, a6, h⟩ := h
  exact ⟨a5, (heapcell h 30).1, (heapcell h 31).1, (heapcell h 32).1, (heapcell h 33).1, (heapcell h 34).1, (heapcell h 35).1⟩
theorem RowsAt.r6 {w : World} {b : Nat} (h : RowsAt w b) : ∃ a : Addr, w.cell? ⟨b, 36, none⟩ = some (.string ⟨#[98, 97, 115, 101, 46, 102, 114, 97, 109, 101]⟩) ∧ w.cell? ⟨b, 37, none⟩ = some (.int .i64 1) ∧ w.cell? ⟨b, 38, none⟩ = some (.int .i64 65) ∧ w.cell? ⟨b, 39, none⟩ = some (.bool false) ∧ w.cell? ⟨b, 40, none⟩ = some (.int .i64 0) ∧ w.cell? ⟨b, 41, none⟩ = some (.slice (some a) 3 3) := by
  obtain ⟨a0, a1, a2, a3, a4, a5, a6, h⟩ := h
  exact ⟨a6, (heapcell h 36).1, (heapcell h 37).1, (heapcell h 38).1, (heapcell h 39).1, (heapcell h 40).1, (heapcell h 41).1⟩
theorem RowsAt.below {w w' : World} {b : Nat} (h : RowsAt w b) (hb : Below w.heap.size w w') : RowsAt w' b := by
  obtain ⟨a0, a1, a2, a3, a4, a5, a6, h⟩ := h
  exact ⟨a0, a1, a2, a3, a4, a5, a6, heap_keep h hb⟩
end

section
open Go.RowKit
set_option maxRecDepth 100000
/-- Handles that hold nodes, in a row. -/
def HsArg (w : World) (hs : List Nat) (v : Value) : Prop := ∃ la lc, v = .slice la hs.length lc ∧ (0 < hs.length → ∃ g, la = some ⟨g, 0, none⟩ ∧ ∀ (j b : Nat), hs[j]? = some b → w.cell? ⟨g, j, none⟩ = some (.pointer (some ⟨b, 0, none⟩))) ∧ ∀ b ∈ hs, ∃ t u, HdAt w b t u
theorem HsArg.below {w w' : World} {hs : List Nat} {v : Value} (h : HsArg w hs v) (hb : Below w.heap.size w w') : HsArg w' hs v := by
  obtain ⟨la, lc, rfl, h1, h2⟩ := h
  refine ⟨la, lc, rfl, fun h0 => ?_, fun b hb' => ?_⟩
  · obtain ⟨g, e, h3⟩ := h1 h0
    exact ⟨g, e, fun j b hj => cell_stepA (h3 j b hj) hb⟩
  · obtain ⟨t, u, h3⟩ := h2 b hb'
    exact ⟨t, u, heap_keep h3 hb⟩
def cntE (n : Nat) : Int := if 1 ≤ n ∧ n ≤ 65 then 0 else 11
def TreeF (w : World) (T : Nat) : Prop := w.heap[T]? = some (.cells #[.string ⟨#[98, 97, 115, 101, 46, 102, 114, 97, 109, 101]⟩, .int .i64 0, .string ⟨#[]⟩, .slice none 0 0] 24 (0, 0))
def FtW (w : World) (hs : List Nat) (v : Value) (T D : Nat) (a : Addr) (wq : World) : Prop := TreeF wq T ∧ wq.heap[D]? = some (.cells #[.string ⟨#[98, 97, 115, 101, 46, 102, 114, 97, 109, 101]⟩, .int .i64 1, .int .i64 65, .bool false, .int .i64 0, .slice (some a) 3 3] 151 (0, 0)) ∧ Below w.heap.size w wq ∧ HsArg wq hs v
theorem below_allocA {w w1 : World} (h : Below w.heap.size w w1) (o : Obj) : Below w.heap.size w (w1.alloc o) := h.alloc h.size o
set_option maxHeartbeats 4000000 in
theorem fits_frame (w : World) (hs : List Nat) (v : Value) (hv : HsArg w hs v) (hn : hs.length ≤ 2000) :
    Calls Tryz.prog 24 #[.agg #[.string ⟨#[98, 97, 115, 101, 46, 102, 114, 97, 109, 101]⟩, .int .i64 0, .string ⟨#[]⟩, .slice none 0 0], v] w (RetB w (.int .i64 (cntE hs.length))) := by
  have g := hv
  obtain ⟨la, lc, rfl, _, _⟩ := g
  have HV := Lib.hid hv
  clear hv
  go_enter Tryz.func24, Tryz.ntmps24
  go_wp2_with fail
  have hb0 := alloc_below w (.cells #[.string ⟨#[98, 97, 115, 101, 46, 102, 114, 97, 109, 101]⟩, .int .i64 0, .string ⟨#[]⟩, .slice none 0 0] 24)
  have ht0 := heap_alloc_new w (.cells #[.string ⟨#[98, 97, 115, 101, 46, 102, 114, 97, 109, 101]⟩, .int .i64 0, .string ⟨#[]⟩, .slice none 0 0] 24)
  generalize (w.alloc (.cells #[.string ⟨#[98, 97, 115, 101, 46, 102, 114, 97, 109, 101]⟩, .int .i64 0, .string ⟨#[]⟩, .slice none 0 0] 24)) = w0 at hb0 ht0 ⊢
  obtain ⟨T, hT⟩ : ∃ T, T = w.heap.size := ⟨_, rfl⟩
  have HN := Lib.hid hT
  rw [← hT] at ht0 ⊢
  clear hT
  refine (rows_any w0).mono ?_
  rintro e w1 ⟨rb, rfl, hrows, hb1⟩
  have HB1 := Lib.hid (hb0.trans (hb1.mono hb0.size))
  have HR1 := Lib.hid hrows
  have HT1 : Hid (TreeF w1 T) := Lib.hid (heap_keep ht0 hb1)
  clear hb0 ht0 hb1 hrows
  go_wp2_with fail
  go_loopw [11] (fun iv wr => ∃ (i : Nat) (x : Int), i ≤ 6 ∧ x = i ∧ iv = .int .i64 x ∧ Hid (RowsAt wr rb) ∧ Hid (TreeF wr T) ∧ Hid (Below w.heap.size w wr))
    (fun iv _ => 6 - (intOf iv).toNat)
  case atStart => exact ⟨0, 0, by omega, rfl, rfl, HR1, HT1, HB1⟩
  case round =>
    obtain ⟨i, x, hi, hx, rfl, HR, HTt, HB⟩ := hrel
    obtain ⟨y0, _⟩ := heapcell HTt.out 0
    obtain ⟨y1, _⟩ := heapcell HTt.out 1
    obtain ⟨y2, _⟩ := heapcell HTt.out 2
    have hTl : T < wr.heap.size := (Array.getElem?_eq_some_iff.1 HTt.out).1
    rcases (by omega : i = 0 ∨ i = 1 ∨ i = 2 ∨ i = 3 ∨ i = 4 ∨ i = 5 ∨ i = 6) with rfl | rfl | rfl | rfl | rfl | rfl | rfl
    · obtain rfl : x = 0 := by omega
      clear hx hi
      obtain ⟨a, c0, c1, c2, c3, c4, c5⟩ := HR.out.r0
      go_wp2_with fail
      go_roundw
      case rel => exact ⟨1, 1, by omega, rfl, by go_num, Lib.hid (HR.out.below (alloc_below wr _)), Lib.hid (heap_keep HTt.out (alloc_below wr _)), Lib.hid (below_allocA HB.out _)⟩
      case measure => simp [intOf]
    · obtain rfl : x = 1 := by omega
      clear hx hi
      obtain ⟨a, c0, c1, c2, c3, c4, c5⟩ := HR.out.r1
      go_wp2_with fail
      go_roundw
      case rel => exact ⟨2, 2, by omega, rfl, by go_num, Lib.hid (HR.out.below (alloc_below wr _)), Lib.hid (heap_keep HTt.out (alloc_below wr _)), Lib.hid (below_allocA HB.out _)⟩
      case measure => simp [intOf]
    · obtain rfl : x = 2 := by omega
      clear hx hi
      obtain ⟨a, c0, c1, c2, c3, c4, c5⟩ := HR.out.r2
      go_wp2_with fail
      go_roundw
      case rel => exact ⟨3, 3, by omega, rfl, by go_num, Lib.hid (HR.out.below (alloc_below wr _)), Lib.hid (heap_keep HTt.out (alloc_below wr _)), Lib.hid (below_allocA HB.out _)⟩
      case measure => simp [intOf]
    · obtain rfl : x = 3 := by omega
      clear hx hi
      obtain ⟨a, c0, c1, c2, c3, c4, c5⟩ := HR.out.r3
      go_wp2_with fail
      go_roundw
      case rel => exact ⟨4, 4, by omega, rfl, by go_num, Lib.hid (HR.out.below (alloc_below wr _)), Lib.hid (heap_keep HTt.out (alloc_below wr _)), Lib.hid (below_allocA HB.out _)⟩
      case measure => simp [intOf]
    · obtain rfl : x = 4 := by omega
      clear hx hi
      obtain ⟨a, c0, c1, c2, c3, c4, c5⟩ := HR.out.r4
      go_wp2_with fail
      go_roundw
      case rel => exact ⟨5, 5, by omega, rfl, by go_num, Lib.hid (HR.out.below (alloc_below wr _)), Lib.hid (heap_keep HTt.out (alloc_below wr _)), Lib.hid (below_allocA HB.out _)⟩
      case measure => simp [intOf]
    · obtain rfl : x = 5 := by omega
      clear hx hi
      obtain ⟨a, c0, c1, c2, c3, c4, c5⟩ := HR.out.r5
      go_wp2_with fail
      go_roundw
      case rel => exact ⟨6, 6, by omega, rfl, by go_num, Lib.hid (HR.out.below (alloc_below wr _)), Lib.hid (heap_keep HTt.out (alloc_below wr _)), Lib.hid (below_allocA HB.out _)⟩
      case measure => simp [intOf]
    · obtain rfl : x = 6 := by omega
      clear hx hi
      obtain ⟨a, c0, c1, c2, c3, c4, c5⟩ := HR.out.r6
      go_wp2_with fail
      have hb5 := alloc_below wr (.cells #[.string ⟨#[98, 97, 115, 101, 46, 102, 114, 97, 109, 101]⟩, .int .i64 1, .int .i64 65, .bool false, .int .i64 0, .slice (some a) 3 3] 151)
      have hd5 := heap_alloc_new wr (.cells #[.string ⟨#[98, 97, 115, 101, 46, 102, 114, 97, 109, 101]⟩, .int .i64 1, .int .i64 65, .bool false, .int .i64 0, .slice (some a) 3 3] 151)
      have ht5 : TreeF (wr.alloc (.cells #[.string ⟨#[98, 97, 115, 101, 46, 102, 114, 97, 109, 101]⟩, .int .i64 1, .int .i64 65, .bool false, .int .i64 0, .slice (some a) 3 3] 151)) T := heap_keep HTt.out hb5
      generalize (wr.alloc (.cells #[.string ⟨#[98, 97, 115, 101, 46, 102, 114, 97, 109, 101]⟩, .int .i64 1, .int .i64 65, .bool false, .int .i64 0, .slice (some a) 3 3] 151)) = w5 at hb5 hd5 ht5 ⊢
      generalize wr.heap.size = D at hd5 ⊢
      have HB5 := Lib.hid (HB.out.trans (hb5.mono HB.out.size))
      have HF : Hid (FtW w hs (.slice la hs.length lc) T D a w5) := Lib.hid ⟨ht5, hd5, HB5.out, HV.out.below HB5.out⟩
      clear hb5 hd5 ht5 c0 c1 c2 c3 c4 c5 HR HTt HB hTl y0 y1 y2 HB5
      go_loopw [22] (fun jv wq => ∃ j : Nat, j ≤ hs.length ∧ jv = .int .i64 j ∧ Hid (FtW w hs (.slice la hs.length lc) T D a wq)) (fun jv _ => hs.length - (intOf jv).toNat)
      case atStart => exact ⟨0, by omega, rfl, HF⟩
      case round =>
        obtain ⟨j, hj, rfl, HF⟩ := hrel
        obtain ⟨y1, _⟩ := heapcell HF.out.1 1
        obtain ⟨y2, _⟩ := heapcell HF.out.1 2
        obtain ⟨d1, _⟩ := heapcell HF.out.2.1 1
        obtain ⟨d2, _⟩ := heapcell HF.out.2.1 2
        obtain ⟨d3, _⟩ := heapcell HF.out.2.1 3
        obtain ⟨d4, _⟩ := heapcell HF.out.2.1 4
        by_cases hlt : j < hs.length
        · have hltI : (j : Int) < (hs.length : Int) := by omega
          obtain ⟨la', lc', e, h1, h2⟩ := HF.out.2.2.2
          simp only [Value.slice.injEq, true_and] at e
          obtain ⟨rfl, rfl⟩ := e
          obtain ⟨g, rfl, h3⟩ := h1 (by omega)
          obtain ⟨t, u, hd⟩ := h2 hs[j] (List.getElem_mem hlt)
          have x0 := h3 j hs[j] (List.getElem?_eq_getElem hlt)
          generalize hs[j] = b at hd x0
          have HD := Lib.hid hd
          clear h1 h2 h3 hd
          go_wp2_with fail
          refine (holds_any _ b t u HD.out).mono ?_
          rintro e w' ⟨rfl, rfl⟩
          go_wp2_with fail
          go_roundw
          case rel => exact ⟨j + 1, by omega, by go_num, HF⟩
          case measure => simp [intOf]; omega
        · obtain rfl : j = hs.length := by omega
          have hltI : ¬ ((hs.length : Int) < (hs.length : Int)) := by omega
          by_cases h1 : hs.length < 1
          · have h1I : (hs.length : Int) < 1 := by omega
            have hc : cntE hs.length = 11 := if_neg (by omega)
            have HC := Lib.hid hc
            clear hc
            go_wp2_with fail
            go_ret
            exact ⟨by rw [HC.out]; rfl, HF.out.2.2.1⟩
          · by_cases h2 : 65 < hs.length
            · have h1I : ¬ (hs.length : Int) < 1 := by omega
              have h2I : (65 : Int) < (hs.length : Int) := by omega
              have hc : cntE hs.length = 11 := if_neg (by omega)
              have HC := Lib.hid hc
              clear hc
              go_wp2_with fail
              go_ret
              exact ⟨by rw [HC.out]; rfl, HF.out.2.2.1⟩
            · have h1I : ¬ (hs.length : Int) < 1 := by omega
              have h2I : ¬ (65 : Int) < (hs.length : Int) := by omega
              have hc : cntE hs.length = 0 := if_pos (by omega)
              have HC := Lib.hid hc
              clear hc
              go_wp2_with fail
              go_ret
              exact ⟨by rw [HC.out]; rfl, HF.out.2.2.1⟩
end

section
open Go.RowKit
set_option maxRecDepth 100000
theorem heap_setA {w : World} {b j : Nat} {cs : Array Value} {t : TypeId} (h : w.heap[b]? = some (.cells cs t (0, 0))) (v : Value) : (w.setCell ⟨b, j, none⟩ v).heap[b]? = some (.cells (cs.set! j v) t (0, 0)) := by
  unfold World.setCell
  simp [Array.getElem?_modify, h]
theorem heap_set_ne {w : World} {b j g : Nat} (v : Value) (hg : g ≠ b) : (w.setCell ⟨b, j, none⟩ v).heap[g]? = w.heap[g]? := Below.heap_setCell _ _ _ _ (fun e => hg e)
theorem ownsRow_keep {w w' : World} {base e size n : Nat} {v : Value} {xs : List Value} (h : w.ownsRow base e size v n xs) (hk : ∀ g, v.ownBlock = some g → w'.heap[g]? = w.heap[g]?) : w'.ownsRow base e size v n xs := by
  refine ⟨h.1, ?_⟩
  rcases h.2 with hn | ⟨g, cap, cur, rfl, hb, hgg, rest⟩
  · exact .inl hn
  · exact .inr ⟨g, cap, cur, rfl, hb, by rw [hk g rfl]; exact hgg, rest⟩
theorem own_slice {w : World} {base e size n : Nat} {v : Value} {xs : List Value} (h : w.ownsRow base e size v n xs) : ∃ la lc, v = .slice la n lc := by
  rcases h.2 with ⟨rfl, rfl⟩ | ⟨g, cap, cur, rfl, _⟩
  · exact ⟨none, 0, rfl⟩
  · exact ⟨_, cap, rfl⟩
theorem info44 : (Tryz.prog.info? 56).map (fun i => (i.zero, i.size, i.bytes)) = some (some .nilIface, 1, 16) := by kernel_rfl
theorem one_new (w : World) (v : Value) (t : TypeId) : ∀ j u, [v][j]? = some u → (w.alloc (.cells #[v] t)).cell? ((⟨w.heap.size, 0, none⟩ : Addr).add j) = some u := by
  intro j u hu
  cases j with
  | zero =>
    have : v = u := by simpa using hu
    subst this
    have e : (⟨w.heap.size, 0, none⟩ : Addr).add 0 = ⟨w.heap.size, 0, none⟩ := by unfold Addr.add; simp
    rw [e, (heapcell (heap_alloc_new w (.cells #[v] t)) 0).1]
    rfl
  | succ j => simp at hu
/-- Handles in a row, with the nodes that they hold. -/
structure HsN (w : World) (hs : List Nat) (vs : List Value) (v : Value) : Prop where
  len : vs.length = hs.length
  arg : HsArg w hs v
  nodes : ∀ (j b : Nat), hs[j]? = some b → ∃ t u, vs[j]? = some (.iface t u) ∧ HdAt w b t u
theorem HsN.below {w w' : World} {hs : List Nat} {vs : List Value} {v : Value} (h : HsN w hs vs v) (hb : Below w.heap.size w w') : HsN w' hs vs v :=
  ⟨h.len, h.arg.below hb, fun j b hj => by
    obtain ⟨t, u, h1, h2⟩ := h.nodes j b hj
    exact ⟨t, u, h1, heap_keep h2 hb⟩⟩
/-- What is laid so far. -/
structure LayW (w : World) (R D : Nat) (k s : ByteArray) (vs : List Value) (j : Nat) (kv : Value) (wr : World) : Prop where
  d : wr.heap[D]? = some (.cells #[.string k, .int .i64 0, .string s, kv] 91 (0, 0))
  o : wr.ownsRow w.heap.size 56 1 kv j (vs.take j)
  ne : kv.ownBlock ≠ some D
  nb : w.heap.size ≤ D
  r : wr.heap[R]? = some (.cells #[.string ⟨#[]⟩, .int .i64 0, .string ⟨#[]⟩, .slice none 0 0] 91 (0, 0))
  nr : R ≠ D
  ner : kv.ownBlock ≠ some R
  nrb : w.heap.size ≤ R
  b : Below w.heap.size w wr
theorem LayW.next {w : World} {R D : Nat} {k s : ByteArray} {vs : List Value} {j g cap : Nat} {kv x : Value} {wr W w1 : World} (h : LayW w R D k s vs j kv wr) (hW : ∀ g, g < wr.heap.size → W.heap[g]? = wr.heap[g]?) (hWs : wr.heap.size < W.heap.size) (hWb : Below w.heap.size w W)
    (hx : vs[j]? = some x) (hown : w1.ownsRow w.heap.size 56 1 (.slice (some ⟨g, 0, none⟩) (j + 1) cap) (j + 1) (vs.take j ++ [x])) (hgrow : W.grownBy w1 kv.ownBlock) (hat : kv.ownBlock = some g ∨ g = W.heap.size) :
    LayW w R D k s vs (j + 1) (.slice (some ⟨g, 0, none⟩) (j + 1) cap) (w1.setCell ⟨D, 3, none⟩ (.slice (some ⟨g, 0, none⟩) (j + 1) cap)) := by
  have hD : D < wr.heap.size := (Array.getElem?_eq_some_iff.1 h.d).1
  have hgD : g ≠ D := by
    rcases hat with h1 | h1
    · intro e; subst e; exact h.ne h1
    · omega
  have hd1 : w1.heap[D]? = some (.cells #[.string k, .int .i64 0, .string s, kv] 91 (0, 0)) := by
    rw [hgrow.block D (by omega) (fun e => h.ne e.symm), hW D hD]; exact h.d
  have hR : R < wr.heap.size := (Array.getElem?_eq_some_iff.1 h.r).1
  have hgR : g ≠ R := by
    rcases hat with h1 | h1
    · intro e; subst e; exact h.ner h1
    · omega
  have hr1 : (w1.setCell ⟨D, 3, none⟩ (.slice (some ⟨g, 0, none⟩) (j + 1) cap)).heap[R]? = some (.cells #[.string ⟨#[]⟩, .int .i64 0, .string ⟨#[]⟩, .slice none 0 0] 91 (0, 0)) := by
    rw [heap_set_ne _ h.nr, hgrow.block R (by omega) (fun e => h.ner e.symm), hW R hR]; exact h.r
  refine ⟨heap_setA hd1 _, ?_, by simpa [Value.ownBlock] using hgD, h.nb, hr1, h.nr, by simpa [Value.ownBlock] using hgR, h.nrb, (hWb.grown hgrow hWb.size (fun g hg => (h.o.lt g hg).1)).setCell h.nb _⟩
  have ht : vs.take (j + 1) = vs.take j ++ [x] := by
    have hj : j < vs.length := (List.getElem?_eq_some_iff.1 hx).1
    rw [List.take_succ_eq_append_getElem hj]
    congr 2
    exact (List.getElem?_eq_some_iff.1 hx).2
  rw [ht]
  exact ownsRow_keep hown (fun b hb => heap_set_ne _ (by simp [Value.ownBlock] at hb; omega))
set_option maxHeartbeats 4000000 in
theorem lay_any (w : World) (k s : ByteArray) (hs : List Nat) (vs : List Value) (v : Value) (hv : HsN w hs vs v) (hn : hs.length ≤ 2000) :
    Calls Tryz.prog 26 #[.agg #[.string k, .int .i64 0, .string s, .slice none 0 0], v] w fun e w' => ∃ kv, e = .returned (.agg #[.string k, .int .i64 0, .string s, kv]) ∧ w'.ownsRow w.heap.size 56 1 kv hs.length vs ∧ Below w.heap.size w w' := by
  obtain ⟨i44, hi44, hy0, hy1, hy2⟩ := info_parts info44
  have HI := Lib.hid (And.intro hi44 (And.intro hy0 (And.intro hy1 hy2)))
  clear hi44 hy0 hy1 hy2
  obtain ⟨la, lc, rfl, _, _⟩ := hv.arg
  have HV := Lib.hid hv
  clear hv
  go_enter Tryz.func26, Tryz.ntmps26
  go_wp2_with fail
  have hst : LayW w (w.heap.size + 1) (w.heap.size + 1 + 1) k s vs 0 (.slice none 0 0) (((w.alloc (.cells #[.string k, .int .i64 0, .string s, .slice none 0 0] 24)).alloc (.cells #[.string ⟨#[]⟩, .int .i64 0, .string ⟨#[]⟩, .slice none 0 0] 91)).alloc (.cells #[.string k, .int .i64 0, .string s, .slice none 0 0] 91)) := by
    have h1 := heap_alloc_new (w.alloc (.cells #[.string k, .int .i64 0, .string s, .slice none 0 0] 24)) (.cells #[.string ⟨#[]⟩, .int .i64 0, .string ⟨#[]⟩, .slice none 0 0] 91)
    have h2 := heap_alloc_new ((w.alloc (.cells #[.string k, .int .i64 0, .string s, .slice none 0 0] 24)).alloc (.cells #[.string ⟨#[]⟩, .int .i64 0, .string ⟨#[]⟩, .slice none 0 0] 91)) (.cells #[.string k, .int .i64 0, .string s, .slice none 0 0] 91)
    simp only [World.size_alloc] at h1 h2
    refine ⟨h2, ⟨by simp, .inl ⟨rfl, rfl⟩⟩, by simp [Value.ownBlock], by omega, (Below.heap_alloc _ _ _ (by simp)).trans h1, by omega, by simp [Value.ownBlock], by omega, ((alloc_below w _).alloc (by simp) _).alloc (by simp; omega) _⟩
  have HST := Lib.hid hst
  clear hst
  generalize (((w.alloc (.cells #[.string k, .int .i64 0, .string s, .slice none 0 0] 24)).alloc (.cells #[.string ⟨#[]⟩, .int .i64 0, .string ⟨#[]⟩, .slice none 0 0] 91)).alloc (.cells #[.string k, .int .i64 0, .string s, .slice none 0 0] 91)) = w0 at HST ⊢
  obtain ⟨D, hD⟩ : ∃ D, D = w.heap.size + 1 + 1 := ⟨_, rfl⟩
  obtain ⟨R, hR⟩ : ∃ R, R = w.heap.size + 1 := ⟨_, rfl⟩
  rw [← hD, ← hR] at HST ⊢
  clear hD hR
  go_loopw [17] (fun jv wr => ∃ (j : Nat) (kv : Value), j ≤ hs.length ∧ jv = .int .i64 j ∧ Hid (LayW w R D k s vs j kv wr)) (fun jv _ => hs.length - (intOf jv).toNat)
  case atStart => exact ⟨0, _, by omega, rfl, HST⟩
  case round =>
    obtain ⟨j, kv, hj, rfl, HL⟩ := hrel
    obtain ⟨d3, f3⟩ := heapcell HL.out.d 3
    by_cases hlt : j < hs.length
    · have hltI : (j : Int) < (hs.length : Int) := by omega
      have hv1 := HV.out.below HL.out.b
      obtain ⟨la', lc', e, h1, h2⟩ := hv1.arg
      simp only [Value.slice.injEq, true_and] at e
      obtain ⟨rfl, rfl⟩ := e
      obtain ⟨g, rfl, h3⟩ := h1 (by omega)
      obtain ⟨t, u, hvj, hd⟩ := hv1.nodes j hs[j] (List.getElem?_eq_getElem hlt)
      have x0 := h3 j hs[j] (List.getElem?_eq_getElem hlt)
      generalize hs[j] = b at hd x0
      have HD := Lib.hid hd
      have HVJ := Lib.hid hvj
      obtain ⟨ka, kc, hk⟩ := own_slice HL.out.o
      subst hk
      have hDl : D < wr.heap.size := (Array.getElem?_eq_some_iff.1 HL.out.d).1
      have HDl := Lib.hid hDl
      have HO : Hid ((wr.drew).ownsRow w.heap.size 56 1 (.slice ka j kc) j (vs.take j)) := Lib.hid (ownsRow_keep HL.out.o (fun _ _ => rfl))
      have HN1 : Hid (∀ x ∈ [Value.iface t u], x.oneCell' = true) := Lib.hid (fun x hx => by simp at hx; subst hx; rfl)
      have HN2 : Hid (j + 1 ≤ maxLen) := Lib.hid (by unfold maxLen; omega)
      have HN3 : Hid ((j + 1) * 16 ≤ 140737488355328) := Lib.hid (by omega)
      have HN4 : Hid (w.heap.size ≤ ((wr.drew).alloc (.cells #[.iface t u] 56)).heap.size) := Lib.hid (by have := HL.out.b.size; rw [World.size_alloc]; exact Nat.le_succ_of_le this)
      have HN5 : Hid (D < ((wr.drew).alloc (.cells #[.iface t u] 56)).heap.size) := Lib.hid (by rw [World.size_alloc]; exact Nat.lt_succ_of_lt hDl)
      have HN6 : Hid (((wr.drew).alloc (.cells #[.iface t u] 56)).heap[D]? = some (.cells #[.string k, .int .i64 0, .string s, .slice ka j kc] 91 (0, 0))) := Lib.hid ((Below.heap_alloc wr.drew _ _ hDl).trans HL.out.d)
      have HN7 : Hid (some D ≠ (Value.slice ka j kc).ownBlock) := Lib.hid (fun e => HL.out.ne e.symm)
      have d3a : (wr.alloc (.cells #[.iface t u] 56)).cell? ⟨D, 3, none⟩ = some (.slice ka j kc) := (heapcell ((Below.heap_alloc wr _ _ hDl).trans HL.out.d) 3).1
      have HCN : Hid (Calls Tryz.prog 11 #[.pointer (some ⟨b, 0, none⟩)] wr.drew fun e w' => e = .returned (.iface t u) ∧ w' = wr.drew) := Lib.hid (node_any wr.drew b t u hd)
      clear h1 h2 h3 hd hvj hv1 hDl
      go_wp2_with fail
      go_region_law (first | (refine step_append_lies _ (by rfl) _ _ _ (by rfl) w.heap.size 56 i44 .nilIface 1 16 Tryz.underlying89 HI.out.1 HI.out.2.1 HI.out.2.2.1 HI.out.2.2.2 (by rfl) (by decide) _ _ _ (by rfl) (HO.out.alloc _) ⟨wr.heap.size, 0, none⟩ 1 1 [.iface t u] (by rfl) (by rfl) (one_new _ _ _) HN1.out (by decide) HN2.out HN3.out HN4.out _ rfl ?_; intro g2 cap2 w1 hown1 hgrow1 hat1 hlt1; have hq := (hgrow1.block D HN5.out HN7.out).trans HN6.out; obtain ⟨p3, f3'⟩ := heapcell hq 3) | (go_simp; go_at_call 11; refine HCN.out.mono ?_; rintro e w' ⟨rfl, rfl⟩))
      all_goals
        have HNX := Lib.hid (HL.out.next (W := (wr.drew).alloc (.cells #[.iface t u] 56)) (fun g hg => Below.heap_alloc wr.drew _ _ hg) (by simp) (HL.out.b.drew.alloc (by have := HL.out.b.size; exact this) _) HVJ.out hown1 hgrow1 hat1)
        clear hown1 hgrow1 hat1 hq
        go_wp2_with fail
        go_roundw
        case rel => exact ⟨j + 1, _, by omega, by go_num, HNX⟩
        case measure => simp [intOf]; omega
    · obtain rfl : j = hs.length := by omega
      have hltI : ¬ ((hs.length : Int) < (hs.length : Int)) := by omega
      obtain ⟨ka, kc, hk⟩ := own_slice HL.out.o
      subst hk
      obtain ⟨d0, _⟩ := heapcell HL.out.d 0
      obtain ⟨d1, _⟩ := heapcell HL.out.d 1
      obtain ⟨d2, _⟩ := heapcell HL.out.d 2
      obtain ⟨r0, q0⟩ := heapcell HL.out.r 0
      obtain ⟨r1, q1⟩ := heapcell HL.out.r 1
      obtain ⟨r2, q2⟩ := heapcell HL.out.r 2
      obtain ⟨r3, q3⟩ := heapcell HL.out.r 3
      go_wp2_with fail
      have hf : ((((wr.setCell ⟨R, 0, none⟩ (.string k)).setCell ⟨R, 1, none⟩ (.int .i64 0)).setCell ⟨R, 2, none⟩ (.string s)).setCell ⟨R, 3, none⟩ (.slice ka hs.length kc)).heap[R]? = some (.cells #[.string k, .int .i64 0, .string s, .slice ka hs.length kc] 91 (0, 0)) :=
        heap_setA (heap_setA (heap_setA (heap_setA HL.out.r _) _) _) _
      have ho : ((((wr.setCell ⟨R, 0, none⟩ (.string k)).setCell ⟨R, 1, none⟩ (.int .i64 0)).setCell ⟨R, 2, none⟩ (.string s)).setCell ⟨R, 3, none⟩ (.slice ka hs.length kc)).ownsRow w.heap.size 56 1 (.slice ka hs.length kc) hs.length vs := by
        have h := HL.out.o
        rw [List.take_of_length_le (by rw [HV.out.len]; exact Nat.le_refl _)] at h
        refine ownsRow_keep h (fun g hg => ?_)
        have hne : g ≠ R := fun e => HL.out.ner (e ▸ hg)
        rw [heap_set_ne _ hne, heap_set_ne _ hne, heap_set_ne _ hne, heap_set_ne _ hne]
      have hb : Below w.heap.size w ((((wr.setCell ⟨R, 0, none⟩ (.string k)).setCell ⟨R, 1, none⟩ (.int .i64 0)).setCell ⟨R, 2, none⟩ (.string s)).setCell ⟨R, 3, none⟩ (.slice ka hs.length kc)) :=
        (((HL.out.b.setCell HL.out.nrb _).setCell HL.out.nrb _).setCell HL.out.nrb _).setCell HL.out.nrb _
      generalize ((((wr.setCell ⟨R, 0, none⟩ (.string k)).setCell ⟨R, 1, none⟩ (.int .i64 0)).setCell ⟨R, 2, none⟩ (.string s)).setCell ⟨R, 3, none⟩ (.slice ka hs.length kc)) = W at hf ho hb ⊢
      obtain ⟨p0, _⟩ := heapcell hf 0
      obtain ⟨p1, _⟩ := heapcell hf 1
      obtain ⟨p2, _⟩ := heapcell hf 2
      obtain ⟨p3, _⟩ := heapcell hf 3
      exact bodyPost_ret (v := .agg #[.string k, .int .i64 0, .string s, .slice ka hs.length kc]) (by simp [results, Tryz.results26, go_sem, p0, p1, p2, p3]) rfl ⟨_, rfl, ho, hb⟩
end

section
open Go.RowKit
set_option maxRecDepth 100000
theorem not_empty {s : ByteArray} (h0 : 0 < s.size) : s.toList.isEmpty = false := by
  rw [ByteArray.toList_eq]
  have : s.data.toList ≠ [] := fun e => by
    have h : s.data.toList.length = 0 := by rw [e]; rfl
    rw [Array.length_toList] at h
    have h2 : s.size = s.data.size := rfl
    omega
  cases h : s.data.toList with
  | nil => exact absurd h this
  | cons a r => rfl
theorem is_empty {s : ByteArray} (h0 : s.size = 0) : s.toList.isEmpty = true := by
  rw [ByteArray.toList_eq]
  have h2 : s.size = s.data.size := rfl
  have h : s.data.toList.length = 0 := by rw [Array.length_toList]; omega
  cases h : s.data.toList with
  | nil => rfl
  | cons a r => simp [h] at *
/-- Some truth, yes where so much holds. -/
def SomeB (q : Prop) (w : World) (e : Ending) (w' : World) : Prop := ∃ b, e = .returned (.bool b) ∧ (q → b = true) ∧ Below w.heap.size w w'
def ItW (w : World) (s : ByteArray) (p : Nat) (wr : World) : Prop := wr = w.iter s p
def posM (w : World) (s : ByteArray) (wr : World) : Nat := match wr.heap[w.heap.size]? with
  | some (.stringIter _ p) => s.size - p
  | _ => 0
theorem posM_eq {w : World} {s : ByteArray} {p : Nat} : posM w s (w.iter s p) = s.size - p := by unfold posM; rw [World.iter_heap]
theorem iter_below (w : World) (s : ByteArray) (p : Nat) : Below w.heap.size w (w.iter s p) := alloc_below w _
set_option maxHeartbeats 2000000 in
theorem made_any (w : World) (s : ByteArray) (cb : Nat) (hc : w.cell? ⟨cb, 0, none⟩ = some (.func (.func 85) #[] #[])) (hm : s.size ≤ 9223372036854775807) :
    Calls Tryz.prog 87 #[.string s, .int .i64 32, .func (.func 85) #[] #[], .func (.func 88) #[] #[.pointer (some ⟨cb, 0, none⟩)]] w (SomeB (NameOk s) w) := by
  have hcl : cb < w.heap.size := World.block_lt_of_cell? w _ hc
  by_cases h0 : s.size = 0
  · have he := is_empty h0
    go_enter Tryz.func87, Tryz.ntmps87
    go_wp2_with fail
    go_ret
    exact ⟨false, rfl, fun h => by have := h.1; omega, Below.refl _ _⟩
  · have he := not_empty (s := s) (by omega)
    by_cases h32 : 32 < s.size
    · have h32I : (32 : Int) < (s.size : Int) := by omega
      go_enter Tryz.func87, Tryz.ntmps87
      go_wp2_with fail
      go_ret
      exact ⟨false, rfl, fun h => by have := h.2.1; omega, Below.refl _ _⟩
    · have h32I : ¬ (32 : Int) < (s.size : Int) := by omega
      have HC := Lib.hid (fun p : Nat => (show (w.iter s p).cell? ⟨cb, 0, none⟩ = some (.func (.func 85) #[] #[]) from ((iter_below w s p).cell (p := ⟨cb, 0, none⟩) hcl).trans hc))
      clear hc
      go_enter Tryz.func87, Tryz.ntmps87
      go_wp2_with fail
      go_loopw [] (fun wr => ∃ p : Nat, Hid (ItW w s p wr)) (fun wr => posM w s wr)
      case atStart => exact ⟨0, Lib.hid rfl⟩
      case round =>
        obtain ⟨p, hw⟩ := hrel
        have hw := hw.out
        unfold ItW at hw
        subst hw
        by_cases hp : p < s.size
        · have hnx := fun ty => run_next_any (P := Tryz.prog) w s p ty hp
          have hwd := width_posN s p hp
          have hru := Lib.hid (fun h : NameOk s => h.rune hp)
          generalize (Utf8.decode s p).2 = wd at hnx hwd
          generalize (((Utf8.decode s p).1 : Nat) : Int) = c at hnx hru
          have HCW := Lib.hid (HC.out (p + wd))
          by_cases hp0 : p = 0
          · subst hp0
            rw [Nat.zero_add] at HCW
            go_wp2_with fail
            refine (letter32 _ c).mono ?_
            rintro e w' ⟨rfl, rfl⟩
            cases hl : letterI c
            · have HL := Lib.hid hl
              clear hl
              go_wp2_with fail
              go_ret
              exact ⟨false, rfl, fun h => by have := (hru.out h).2 (by trivial); rw [HL.out] at this; exact this, iter_below _ _ _⟩
            · clear hl
              go_wp2_with fail
              refine (rest32 _ c cb HCW.out).mono ?_
              rintro e w' ⟨rfl, rfl⟩
              cases hl : restI c
              · have HL := Lib.hid hl
                clear hl
                go_wp2_with fail
                go_ret
                exact ⟨false, rfl, fun h => by have := (hru.out h).1; rw [HL.out] at this; exact this, iter_below _ _ _⟩
              · clear hl
                go_wp2_with fail
                go_roundw
                case rel => exact ⟨wd, Lib.hid rfl⟩
                case measure => rw [posM_eq, posM_eq]; omega
          · have hpI : ((p : Int) == 0) = false := by simp; omega
            go_wp2_with fail
            refine (rest32 _ c cb HCW.out).mono ?_
            rintro e w' ⟨rfl, rfl⟩
            cases hl : restI c
            · have HL := Lib.hid hl
              clear hl
              go_wp2_with fail
              go_ret
              exact ⟨false, rfl, fun h => by have := (hru.out h).1; rw [HL.out] at this; exact this, iter_below _ _ _⟩
            · clear hl
              go_wp2_with fail
              go_roundw
              case rel => exact ⟨p + wd, Lib.hid rfl⟩
              case measure => rw [posM_eq, posM_eq]; omega
        · have hnx := fun ty => run_next_end (P := Tryz.prog) w s p ty hp
          go_wp2_with fail
          go_ret
          exact ⟨true, rfl, fun _ => rfl, iter_below _ _ _⟩
theorem sname_any (w : World) (s : ByteArray) (hm : s.size ≤ 9223372036854775807) : Calls Tryz.prog 51 #[.string s] w (SomeB (NameOk s) w) := by
  have hmf : ∀ (fn : Fn) (first cap : Array Value) (w : World), (Instr.makeFunc fn first cap).run Tryz.prog w = .ok (.func fn first cap) w := fun _ _ _ _ => rfl
  have hb := alloc_below w (.cells #[.func (.func 85) #[] #[]] 221)
  have HB := Lib.hid hb
  have hc := (heapcell (heap_alloc_new w (.cells #[.func (.func 85) #[] #[]] 221)) 0).1
  have HC := Lib.hid hc
  clear hb
  go_enter Tryz.func51, Tryz.ntmps51
  go_wp2_with fail
  refine (made_any _ s w.heap.size HC.out hm).mono ?_
  rintro e w' ⟨b, rfl, hq, hb⟩
  have HQ := Lib.hid hq
  clear hq
  go_wp2_with fail
  go_ret
  exact ⟨b, rfl, HQ.out, HB.out.trans (hb.mono HB.out.size)⟩
def NumE (w : World) (e : Ending) (w' : World) : Prop := ∃ n b, e = .returned (.tuple #[.int .i64 n, .bool b]) ∧ Below w.heap.size w w'
set_option maxHeartbeats 2000000 in
theorem number_any (w : World) (s : ByteArray) (hm : s.size ≤ 9223372036854775807) : Calls Tryz.prog 84 #[.string s] w (NumE w) := by
  by_cases h0 : s.size = 0
  · have he := is_empty h0
    go_enter Tryz.func84, Tryz.ntmps84
    go_wp2_with fail
    go_ret2
    exact ⟨_, _, rfl, Below.refl _ _⟩
  · have he := not_empty (s := s) (by omega)
    by_cases h4 : 4 < s.size
    · have h4I : (4 : Int) < (s.size : Int) := by omega
      go_enter Tryz.func84, Tryz.ntmps84
      go_wp2_with fail
      go_ret2
      exact ⟨_, _, rfl, Below.refl _ _⟩
    · have h4I : ¬ (4 : Int) < (s.size : Int) := by omega
      have hpos : 0 < s.size := by omega
      have hcase : ((((s[0]'hpos).toNat : Int) == 48) = true ∧ (s.toList == [48]) = false) ∨ (((s[0]'hpos).toNat : Int) == 48) = false ∨ ((((s[0]'hpos).toNat : Int) == 48) = true ∧ (s.toList == [48]) = true) := by
        cases (((s[0]'hpos).toNat : Int) == 48) <;> cases (s.toList == [48]) <;> simp
      rcases hcase with ⟨b1, b2⟩ | b1 | ⟨b1, b2⟩
      · go_enter Tryz.func84, Tryz.ntmps84
        go_wp2_with fail
        go_ret2
        exact ⟨_, _, rfl, Below.refl _ _⟩
      all_goals
        go_enter Tryz.func84, Tryz.ntmps84
        go_wp2_with fail
        go_loopw [4] (fun nv wr => ∃ (p : Nat) (n : Int), nv = .int .i64 n ∧ Hid (ItW w s p wr)) (fun _ wr => posM w s wr)
        case atStart => exact ⟨0, 0, rfl, Lib.hid rfl⟩
        case round =>
          obtain ⟨p, n, rfl, hw⟩ := hrel
          have hw := hw.out
          unfold ItW at hw
          subst hw
          by_cases hp : p < s.size
          · have hnx := fun ty => run_next_any (P := Tryz.prog) w s p ty hp
            have hwd := width_posN s p hp
            generalize (Utf8.decode s p).2 = wd at hnx hwd
            generalize (((Utf8.decode s p).1 : Nat) : Int) = c at hnx
            go_wp2_with fail
            refine (digit32 _ c).mono ?_
            rintro e w' ⟨rfl, rfl⟩
            cases hl : digitI c
            · clear hl
              go_wp2_with fail
              go_ret2
              exact ⟨_, _, rfl, iter_below _ _ _⟩
            · clear hl
              go_wp2_with fail
              go_roundw
              case rel => exact ⟨p + wd, _, rfl, Lib.hid rfl⟩
              case measure => rw [posM_eq, posM_eq]; omega
          · have hnx := fun ty => run_next_end (P := Tryz.prog) w s p ty hp
            go_wp2_with fail
            go_ret2
            exact ⟨_, _, rfl, iter_below _ _ _⟩
theorem use_any (w : World) (s : ByteArray) (hm : s.size ≤ 9223372036854775807) : Calls Tryz.prog 48 #[.string s] w (SomeB False w) := by
  go_enter Tryz.func48, Tryz.ntmps48
  go_wp2_with fail
  refine (sname_any w s hm).mono ?_
  rintro e w1 ⟨b, rfl, _, hb⟩
  cases b
  · have HB := Lib.hid hb
    clear hb
    go_wp2_with fail
    refine (number_any _ s hm).mono ?_
    rintro e w2 ⟨n, b2, rfl, hb2⟩
    have HB2 := Lib.hid (HB.out.trans (hb2.mono HB.out.size))
    clear hb2
    by_cases h1 : 1 ≤ n
    · by_cases h2 : n ≤ 64
      all_goals
        cases b2
        all_goals
          go_wp2_with fail
          go_ret
          exact ⟨_, rfl, fun h => h.elim, HB2.out⟩
    · cases b2
      all_goals
        go_wp2_with fail
        go_ret
        exact ⟨_, rfl, fun h => h.elim, HB2.out⟩
  · have HB := Lib.hid hb
    clear hb
    go_wp2_with fail
    go_ret
    exact ⟨true, rfl, fun h => h.elim, HB.out⟩
end

section
open Go.RowKit
set_option maxRecDepth 100000
/-- A path lies there. -/
def PathAt (w : World) (l : List Int) (v : Value) : Prop := ∃ la lc, v = .slice la l.length lc ∧ (l ≠ [] → ∃ b o, la = some ⟨b, o, none⟩ ∧ ∀ i (h : i < l.length), w.cell? ⟨b, o + i, none⟩ = some (.int .i64 l[i]))
theorem PathAt.below {w w' : World} {l : List Int} {v : Value} (h : PathAt w l v) (hb : Below w.heap.size w w') : PathAt w' l v := by
  obtain ⟨la, lc, rfl, h2⟩ := h
  refine ⟨la, lc, rfl, fun hne => ?_⟩
  obtain ⟨b, o, rfl, h3⟩ := h2 hne
  exact ⟨b, o, rfl, fun i hi => cell_stepA (h3 i hi) hb⟩
def PathOk (l : List Int) : Prop := l.length ≤ 63 ∧ ∀ i (h : i < l.length), 0 ≤ l[i] ∧ l[i] ≤ 1022
theorem pdigit (w : World) (c : Int) : Calls Tryz.prog 49 #[.int .u8 c] w fun e w' => e = .returned (.bool (digitI c)) ∧ w' = w := by
  go_enter Tryz.func49, Tryz.ntmps49
  by_cases h1 : 48 ≤ c
  · by_cases h2 : c ≤ 57
    · go_wp2_with fail
      go_ret
      exact ⟨by simp [digitI]; omega, rfl⟩
    · go_wp2_with fail
      go_ret
      exact ⟨by simp [digitI]; omega, rfl⟩
  · go_wp2_with fail
    go_ret
    exact ⟨by simp [digitI]; omega, rfl⟩
theorem psmall (w : World) (c : Int) : Calls Tryz.prog 50 #[.int .u8 c] w fun e w' => e = .returned (.bool (smallI c)) ∧ w' = w := by
  go_enter Tryz.func50, Tryz.ntmps50
  by_cases h1 : 97 ≤ c
  · by_cases h2 : c ≤ 122
    · go_wp2_with fail
      go_ret
      exact ⟨by simp [smallI]; omega, rfl⟩
    · go_wp2_with fail
      go_ret
      exact ⟨by simp [smallI]; omega, rfl⟩
  · go_wp2_with fail
    go_ret
    exact ⟨by simp [smallI]; omega, rfl⟩
/-- Some truth; a yes tells so much. -/
def TellB (q : Prop) (w : World) (e : Ending) (w' : World) : Prop := ∃ b, e = .returned (.bool b) ∧ (b = true → q) ∧ Below w.heap.size w w'
set_option maxHeartbeats 2000000 in
theorem pname_any (w : World) (s : ByteArray) (hm : s.size ≤ 9223372036854775807) : Calls Tryz.prog 29 #[.string s] w (TellB (NameOk s) w) := by
  by_cases h0 : s.size = 0
  · have h0I : (s.size : Int) < 1 := by omega
    go_enter Tryz.func29, Tryz.ntmps29
    go_wp2_with fail
    go_ret
    exact ⟨false, rfl, fun h => (by cases h), Below.refl _ _⟩
  · have h0I : ¬ (s.size : Int) < 1 := by omega
    by_cases h32 : 32 < s.size
    · have h32I : (32 : Int) < (s.size : Int) := by omega
      go_enter Tryz.func29, Tryz.ntmps29
      go_wp2_with fail
      go_ret
      exact ⟨false, rfl, fun h => (by cases h), Below.refl _ _⟩
    · have h32I : ¬ (32 : Int) < (s.size : Int) := by omega
      have hpos : 0 < s.size := by omega
      go_enter Tryz.func29, Tryz.ntmps29
      go_wp2_with fail
      refine (pdigit _ _).mono ?_
      rintro e w' ⟨rfl, rfl⟩
      cases hd : digitI ((s[0]'hpos).toNat : Int)
      · have HD := Lib.hid hd
        clear hd
        go_wp2_with fail
        go_loopw [3] (fun iv wr => ∃ (i : Nat), i ≤ s.size ∧ iv = .int .i64 i ∧ wr = w' ∧ Hid (∀ j (h : j < s.size), j < i → restI ((s[j]'h).toNat : Int) = true)) (fun iv _ => s.size - (intOf iv).toNat)
        case atStart => exact ⟨0, by omega, rfl, rfl, Lib.hid (fun j h hj => by omega)⟩
        case round =>
          obtain ⟨i, hi, rfl, rfl, hq⟩ := hrel
          by_cases hlt : i < s.size
          · have h8 := (s[i]'hlt).toNat_lt
            have HNX : Hid (restI ((s[i]'hlt).toNat : Int) = true → ∀ j (h : j < s.size), j < i + 1 → restI ((s[j]'h).toNat : Int) = true) := Lib.hid (fun h0 j h hj => by
              by_cases hji : j = i
              · subst hji; exact h0
              · exact hq.out j h (by omega))
            have h8I : 0 ≤ ((s[i]'hlt).toNat : Int) ∧ ((s[i]'hlt).toNat : Int) < 256 := by omega
            clear h8
            obtain ⟨c, hcc⟩ : ∃ c : Int, c = ((s[i]'hlt).toNat : Int) := ⟨_, rfl⟩
            simp only [← hcc] at HNX h8I
            go_wp2_with fail
            simp only [← hcc]
            clear hcc
            refine (psmall _ _).mono ?_
            rintro e w2 ⟨rfl, rfl⟩
            cases hs : smallI c
            · go_wp2_with fail
              refine (pdigit _ _).mono ?_
              rintro e w2 ⟨rfl, rfl⟩
              cases hdd : digitI c
              · by_cases h95 : c = 95
                · subst h95
                  go_wp2_with fail
                  go_roundw
                  case rel => exact ⟨i + 1, by omega, by go_num, trivial, Lib.hid (HNX.out (by decide))⟩
                  case measure => simp [intOf]; omega
                · have b95 : (c == 95) = false := by simpa using h95
                  have n95 : (c != 95) = true := by simpa using h95
                  by_cases h65 : 65 ≤ c
                  · by_cases h90 : c ≤ 90
                    · have HR := Lib.hid (HNX.out (by simp [restI, letterI]; omega))
                      go_wp2_with fail
                      go_roundw
                      case rel => exact ⟨i + 1, by omega, by go_num, trivial, HR⟩
                      case measure => simp [intOf]; omega
                    · go_wp2_with fail
                      all_goals first
                        | (exfalso; rename_i hx; simp at hx; omega)
                        | (go_ret; exact ⟨false, rfl, fun h => (by cases h), Below.refl _ _⟩)
                  · go_wp2_with fail
                    all_goals first
                      | (exfalso; rename_i hx; simp at hx; omega)
                      | (go_ret; exact ⟨false, rfl, fun h => (by cases h), Below.refl _ _⟩)
              · have HR := Lib.hid (HNX.out (by simp [restI, hdd]))
                clear hdd hs
                go_wp2_with fail
                go_roundw
                case rel => exact ⟨i + 1, by omega, by go_num, trivial, HR⟩
                case measure => simp [intOf]; omega
            · have HR := Lib.hid (HNX.out (by simp [restI, letterI, hs]))
              clear hs
              go_wp2_with fail
              go_roundw
              case rel => exact ⟨i + 1, by omega, by go_num, trivial, HR⟩
              case measure => simp [intOf]; omega
          · obtain rfl : i = s.size := by omega
            go_wp2_with fail
            go_ret
            refine ⟨true, rfl, fun _ => ⟨by omega, by omega, fun j h => ⟨hq.out j h h, fun hj => ?_⟩⟩, Below.refl _ _⟩
            subst hj
            have h1 := hq.out 0 h h
            unfold restI at h1
            rw [HD.out] at h1
            simpa using h1
      · clear hd
        go_wp2_with fail
        go_ret
        exact ⟨false, rfl, fun h => (by cases h), Below.refl _ _⟩
set_option maxHeartbeats 1000000 in
theorem ppath_any (w : World) (l : List Int) (v : Value) (hv : PathAt w l v) (hm : l.length ≤ 9223372036854775807) : Calls Tryz.prog 30 #[v] w (TellB (PathOk l) w) := by
  obtain ⟨la, lc, rfl, hla⟩ := hv
  have HA := Lib.hid hla
  clear hla
  by_cases h63 : 63 < l.length
  · have h63I : (63 : Int) < (l.length : Int) := by omega
    go_enter Tryz.func30, Tryz.ntmps30
    go_wp2_with fail
    go_ret
    exact ⟨false, rfl, fun h => (by cases h), Below.refl _ _⟩
  · have h63I : ¬ (63 : Int) < (l.length : Int) := by omega
    go_enter Tryz.func30, Tryz.ntmps30
    go_wp2_with fail
    go_loopw [3] (fun iv wr => ∃ (i : Nat), i ≤ l.length ∧ iv = .int .i64 i ∧ wr = w ∧ Hid (∀ j (h : j < l.length), j < i → 0 ≤ l[j] ∧ l[j] ≤ 1022)) (fun iv _ => l.length - (intOf iv).toNat)
    case atStart => exact ⟨0, by omega, rfl, rfl, Lib.hid (fun j h hj => by omega)⟩
    case round =>
      obtain ⟨i, hi, rfl, rfl, hq⟩ := hrel
      by_cases hlt : i < l.length
      · obtain ⟨b, o, rfl, hc⟩ := HA.out (by intro e; subst e; simp at hlt)
        have x0 := hc i hlt
        have HNX : Hid (0 ≤ l[i] → l[i] ≤ 1022 → ∀ j (h : j < l.length), j < i + 1 → 0 ≤ l[j] ∧ l[j] ≤ 1022) := Lib.hid (fun h0 h1 j h hj => by
          by_cases hji : j = i
          · subst hji; exact ⟨h0, h1⟩
          · exact hq.out j h (by omega))
        generalize l[i] = c at HNX x0
        clear hc
        by_cases h0 : c < 0
        · go_wp2_with fail
          go_ret
          exact ⟨false, rfl, fun h => (by cases h), Below.refl _ _⟩
        · by_cases h1 : 1022 < c
          · go_wp2_with fail
            go_ret
            exact ⟨false, rfl, fun h => (by cases h), Below.refl _ _⟩
          · have HR := Lib.hid (HNX.out (by omega) (by omega))
            go_wp2_with fail
            go_roundw
            case rel => exact ⟨i + 1, by omega, by go_num, trivial, HR⟩
            case measure => simp [intOf]; omega
      · obtain rfl : i = l.length := by omega
        go_wp2_with fail
        go_ret
        exact ⟨true, rfl, fun _ => ⟨by omega, fun j h => hq.out j h h⟩, Below.refl _ _⟩
/-- A place, by value. -/
def PlaceAt (w : World) (f : ByteArray) (l : List Int) (v : Value) : Prop := f.size ≤ 140737488355328 ∧ l.length ≤ 140737488355328 ∧ ∃ p, v = .agg #[.string f, p] ∧ PathAt w l p
def PlaceOk (f : ByteArray) (l : List Int) : Prop := (f.size = 0 ∨ NameOk f) ∧ PathOk l
theorem PlaceAt.below {w w' : World} {f : ByteArray} {l : List Int} {v : Value} (h : PlaceAt w f l v) (hb : Below w.heap.size w w') : PlaceAt w' f l v := by
  obtain ⟨h1, h2, p, rfl, h3⟩ := h
  exact ⟨h1, h2, p, rfl, h3.below hb⟩
set_option maxHeartbeats 1000000 in
theorem pplace_any (w : World) (f : ByteArray) (l : List Int) (v : Value) (hv : PlaceAt w f l v) : Calls Tryz.prog 6 #[v] w (TellB (PlaceOk f l) w) := by
  obtain ⟨hf, hl, p, rfl, hp⟩ := hv
  have hb := alloc_below w (.cells #[.string f, p] 27)
  have hc := heap_alloc_new w (.cells #[.string f, p] 27)
  have HP := Lib.hid (hp.below hb)
  have HB := Lib.hid hb
  have HF := Lib.hid hf
  have HL := Lib.hid hl
  have hp2 := hp
  obtain ⟨la, lc, rfl, _⟩ := hp2
  obtain ⟨c0, _⟩ := heapcell hc 0
  obtain ⟨c1, _⟩ := heapcell hc 1
  clear hp hb hc
  by_cases h0 : f.size = 0
  · have he := is_empty h0
    go_enter Tryz.func6, Tryz.ntmps6
    go_wp2_with fail
    refine (ppath_any _ l _ HP.out (by have := HL.out; omega)).mono ?_
    rintro e w2 ⟨b, rfl, hq, hb2⟩
    have HB2 := Lib.hid (HB.out.trans (hb2.mono HB.out.size))
    have HQ := Lib.hid hq
    clear hq hb2
    cases b
    all_goals
      go_wp2_with fail
      go_ret
      exact ⟨_, rfl, fun h => ⟨.inl h0, HQ.out (by first | exact h | trivial)⟩, HB2.out⟩
  · have he := not_empty (s := f) (by omega)
    go_enter Tryz.func6, Tryz.ntmps6
    go_wp2_with fail
    refine (pname_any _ f (by have := HF.out; omega)).mono ?_
    rintro e w1 ⟨b, rfl, hq, hb1⟩
    have HQ1 := Lib.hid hq
    have HB1 := Lib.hid (HB.out.trans (hb1.mono HB.out.size))
    have HP1 := Lib.hid (HP.out.below hb1)
    have d1 := cell_stepA c1 hb1
    clear hq hb1 c0 c1
    cases b
    · go_wp2_with fail
      go_ret
      exact ⟨false, rfl, fun h => (by cases h), HB1.out⟩
    · go_wp2_with fail
      refine (ppath_any _ l _ HP1.out (by have := HL.out; omega)).mono ?_
      rintro e w2 ⟨b, rfl, hq, hb2⟩
      have HB2 := Lib.hid (HB1.out.trans (hb2.mono HB1.out.size))
      have HQ := Lib.hid hq
      clear hq hb2
      cases b
      all_goals
        go_wp2_with fail
        go_ret
        exact ⟨_, rfl, fun h => ⟨.inr (HQ1.out (by first | rfl | trivial)), HQ.out (by first | exact h | trivial)⟩, HB2.out⟩
end

section
open Go.RowKit
set_option maxRecDepth 100000
theorem spred (w : World) (c : Int) (h0 : 0 ≤ c) (h1 : c ≤ 1022) : Calls Tryz.prog 91 #[.int .i64 c] w fun e w' => e = .returned (.bool false) ∧ w' = w := by
  have n0 : ¬ c < 0 := by omega
  have n1 : ¬ 1022 < c := by omega
  go_enter Tryz.func91, Tryz.ntmps91
  go_wp2_with fail
  go_ret
  exact ⟨rfl, rfl⟩
set_option maxHeartbeats 1000000 in
theorem sindex (w : World) (l : List Int) (v : Value) (hv : PathAt w l v) (hk : PathOk l) : Calls Tryz.prog 93 #[v, .func (.func 91) #[] #[]] w fun e w' => e = .returned (.int .i64 (-1)) ∧ w' = w := by
  obtain ⟨la, lc, rfl, hla⟩ := hv
  have HA := Lib.hid hla
  have HK := Lib.hid hk.2
  have h63 := hk.1
  clear hla hk
  go_enter Tryz.func93, Tryz.ntmps93
  go_wp2_with fail
  go_loopw [8] (fun iv wr => ∃ (i : Nat), i ≤ l.length ∧ iv = .int .i64 i ∧ wr = w) (fun iv _ => l.length - (intOf iv).toNat)
  case atStart => exact ⟨0, by omega, rfl, rfl⟩
  case round =>
    obtain ⟨i, hi, rfl, rfl⟩ := hrel
    by_cases hlt : i < l.length
    · obtain ⟨b, o, rfl, hc⟩ := HA.out (by intro e; subst e; simp at hlt)
      have x0 := hc i hlt
      have hr := HK.out i hlt
      have HR := Lib.hid hr
      clear hc hr
      generalize l[i] = c at HR x0
      go_wp2_with fail
      refine (spred _ c HR.out.1 HR.out.2).mono ?_
      rintro e w' ⟨rfl, rfl⟩
      go_wp2_with fail
      go_roundw
      case rel => exact ⟨i + 1, by omega, by go_num, by first | rfl | trivial⟩
      case measure => simp [intOf]; omega
    · obtain rfl : i = l.length := by omega
      go_wp2_with fail
      go_ret
      exact ⟨rfl, rfl⟩
theorem scontains (w : World) (l : List Int) (v : Value) (hv : PathAt w l v) (hk : PathOk l) : Calls Tryz.prog 90 #[v, .func (.func 91) #[] #[]] w fun e w' => e = .returned (.bool false) ∧ w' = w := by
  go_enter Tryz.func90, Tryz.ntmps90
  go_wp2_with fail
  refine (sindex w l v hv hk).mono ?_
  rintro e w' ⟨rfl, rfl⟩
  go_wp2_with fail
  go_ret
  exact ⟨rfl, rfl⟩
theorem spath (w : World) (l : List Int) (v : Value) (hv : PathAt w l v) (hk : PathOk l) : Calls Tryz.prog 52 #[v] w fun e w' => e = .returned (.bool true) ∧ w' = w := by
  have hv2 := hv
  obtain ⟨la, lc, rfl, hla⟩ := hv2
  have HV := Lib.hid hv
  have HK := Lib.hid hk
  have h63 := hk.1
  have h64 : (l.length : Int) < 64 := by omega
  clear hla hk hv
  go_enter Tryz.func52, Tryz.ntmps52
  go_wp2_with fail
  refine (scontains w l _ HV.out HK.out).mono ?_
  rintro e w' ⟨rfl, rfl⟩
  go_wp2_with fail
  go_ret
  exact ⟨rfl, rfl⟩
set_option maxHeartbeats 1000000 in
theorem splace (w : World) (f : ByteArray) (l : List Int) (v : Value) (hv : PlaceAt w f l v) (hk : PlaceOk f l) : Calls Tryz.prog 32 #[v] w (RetB w (.bool true)) := by
  obtain ⟨hf, hl, p, rfl, hp⟩ := hv
  have hb := alloc_below w (.cells #[.string f, p] 27)
  have hc := heap_alloc_new w (.cells #[.string f, p] 27)
  have HP := Lib.hid (hp.below hb)
  have HB := Lib.hid hb
  have HF := Lib.hid hf
  have HK := Lib.hid hk.2
  have hk1 := hk.1
  have hp2 := hp
  obtain ⟨la, lc, rfl, _⟩ := hp2
  obtain ⟨c0, _⟩ := heapcell hc 0
  obtain ⟨c1, _⟩ := heapcell hc 1
  clear hp hb hc hk
  by_cases h0 : f.size = 0
  · have he := is_empty h0
    clear hk1
    go_enter Tryz.func32, Tryz.ntmps32
    go_wp2_with fail
    refine (spath _ l _ HP.out HK.out).mono ?_
    rintro e w2 ⟨rfl, rfl⟩
    go_wp2_with fail
    go_ret
    exact ⟨rfl, HB.out⟩
  · have he := not_empty (s := f) (by omega)
    have HN : Hid (NameOk f) := Lib.hid (hk1.resolve_left h0)
    clear hk1
    go_enter Tryz.func32, Tryz.ntmps32
    go_wp2_with fail
    refine (sname_any _ f (by have := HF.out; omega)).mono ?_
    rintro e w1 ⟨b, rfl, hq, hb1⟩
    obtain rfl := hq HN.out
    have HB1 := Lib.hid (HB.out.trans (hb1.mono HB.out.size))
    have HP1 := Lib.hid (HP.out.below hb1)
    have d1 := cell_stepA c1 hb1
    clear hq hb1 c0 c1
    go_wp2_with fail
    refine (spath _ l _ HP1.out HK.out).mono ?_
    rintro e w2 ⟨rfl, rfl⟩
    go_wp2_with fail
    go_ret
    exact ⟨rfl, HB1.out⟩
end

section
open Go.RowKit
set_option maxRecDepth 100000
theorem begun_told : Eng.isTrue (Eng.evF Tryz.prog 10000 100 4 [] [] 0) = true := by kernel_rfl
theorem begun_any (w : World) : Calls Tryz.prog 4 #[] w fun e w' => e = .returned (.bool true) ∧ Below w.heap.size w w' := Eng.evF_closed (by kernel_rfl) (Eng.isTrue_ok begun_told)
end

section
open Go.RowKit
set_option maxRecDepth 100000
def abN : List ByteArray := [⟨#[76, 105, 116, 101, 114, 97, 108]⟩, ⟨#[83, 116, 114, 105, 99, 116]⟩, ⟨#[76, 97, 122, 121]⟩, ⟨#[66, 105, 110, 100, 101, 114]⟩, ⟨#[85, 115, 101, 114]⟩, ⟨#[67, 97, 108, 108, 101, 114]⟩, ⟨#[80, 117, 114, 101]⟩, ⟨#[84, 111, 116, 97, 108]⟩, ⟨#[83, 111, 114, 116, 101, 100]⟩, ⟨#[83, 117, 103, 97, 114]⟩, ⟨#[70, 114, 97, 109, 101, 100]⟩, ⟨#[87, 114, 97, 112, 112, 101, 100]⟩, ⟨#[79, 114, 105, 103, 105, 110]⟩, ⟨#[79, 112, 97, 113, 117, 101]⟩]
def has159 : List Bool := [false, false, false, false, false, false, false, false, false, false, false, true, true, false]
def has105 : List Bool := [true, false, false, false, false, false, true, true, true, false, false, false, false, false]
def has94 : List Bool := [false, false, false, false, true, false, true, false, false, false, false, false, false, false]
def has99 : List Bool := [false, false, false, false, false, false, true, true, false, false, true, false, false, false]
def boolIs (b : Bool) : Option Eng.FR → Bool
  | some (.ret (.raw (.bool c)) _ _) => c == b
  | _ => false
theorem boolIs_ok {b : Bool} {r : Option Eng.FR} (h : boolIs b r = true) : ∃ h' nx, r = some (.ret (.raw (.bool b)) h' nx) := by
  unfold boolIs at h
  split at h
  · rename_i c h' nx
    have : c = b := by simpa using h
    subst this
    exact ⟨h', nx, rfl⟩
  · cases h
theorem has159_0 : boolIs false (Eng.evF Tryz.prog 1000 50 53 [.iface 159 (.ptr 0 0)] [] 1) = true := by kernel_rfl
theorem has159_1 : boolIs false (Eng.evF Tryz.prog 1000 50 55 [.iface 159 (.ptr 0 0)] [] 1) = true := by kernel_rfl
theorem has159_2 : boolIs false (Eng.evF Tryz.prog 1000 50 57 [.iface 159 (.ptr 0 0)] [] 1) = true := by kernel_rfl
theorem has159_3 : boolIs false (Eng.evF Tryz.prog 1000 50 59 [.iface 159 (.ptr 0 0)] [] 1) = true := by kernel_rfl
theorem has159_4 : boolIs false (Eng.evF Tryz.prog 1000 50 61 [.iface 159 (.ptr 0 0)] [] 1) = true := by kernel_rfl
theorem has159_5 : boolIs false (Eng.evF Tryz.prog 1000 50 63 [.iface 159 (.ptr 0 0)] [] 1) = true := by kernel_rfl
theorem has159_6 : boolIs false (Eng.evF Tryz.prog 1000 50 65 [.iface 159 (.ptr 0 0)] [] 1) = true := by kernel_rfl
theorem has159_7 : boolIs false (Eng.evF Tryz.prog 1000 50 67 [.iface 159 (.ptr 0 0)] [] 1) = true := by kernel_rfl
theorem has159_8 : boolIs false (Eng.evF Tryz.prog 1000 50 69 [.iface 159 (.ptr 0 0)] [] 1) = true := by kernel_rfl
theorem has159_9 : boolIs false (Eng.evF Tryz.prog 1000 50 71 [.iface 159 (.ptr 0 0)] [] 1) = true := by kernel_rfl
theorem has159_10 : boolIs false (Eng.evF Tryz.prog 1000 50 73 [.iface 159 (.ptr 0 0)] [] 1) = true := by kernel_rfl
theorem has159_11 : boolIs true (Eng.evF Tryz.prog 1000 50 75 [.iface 159 (.ptr 0 0)] [] 1) = true := by kernel_rfl
theorem has159_12 : boolIs true (Eng.evF Tryz.prog 1000 50 77 [.iface 159 (.ptr 0 0)] [] 1) = true := by kernel_rfl
theorem has159_13 : boolIs false (Eng.evF Tryz.prog 1000 50 79 [.iface 159 (.ptr 0 0)] [] 1) = true := by kernel_rfl
theorem has105_0 : boolIs true (Eng.evF Tryz.prog 1000 50 53 [.iface 105 (.ptr 0 0)] [] 1) = true := by kernel_rfl
theorem has105_1 : boolIs false (Eng.evF Tryz.prog 1000 50 55 [.iface 105 (.ptr 0 0)] [] 1) = true := by kernel_rfl
theorem has105_2 : boolIs false (Eng.evF Tryz.prog 1000 50 57 [.iface 105 (.ptr 0 0)] [] 1) = true := by kernel_rfl
theorem has105_3 : boolIs false (Eng.evF Tryz.prog 1000 50 59 [.iface 105 (.ptr 0 0)] [] 1) = true := by kernel_rfl
theorem has105_4 : boolIs false (Eng.evF Tryz.prog 1000 50 61 [.iface 105 (.ptr 0 0)] [] 1) = true := by kernel_rfl
theorem has105_5 : boolIs false (Eng.evF Tryz.prog 1000 50 63 [.iface 105 (.ptr 0 0)] [] 1) = true := by kernel_rfl
theorem has105_6 : boolIs true (Eng.evF Tryz.prog 1000 50 65 [.iface 105 (.ptr 0 0)] [] 1) = true := by kernel_rfl
theorem has105_7 : boolIs true (Eng.evF Tryz.prog 1000 50 67 [.iface 105 (.ptr 0 0)] [] 1) = true := by kernel_rfl
theorem has105_8 : boolIs true (Eng.evF Tryz.prog 1000 50 69 [.iface 105 (.ptr 0 0)] [] 1) = true := by kernel_rfl
theorem has105_9 : boolIs false (Eng.evF Tryz.prog 1000 50 71 [.iface 105 (.ptr 0 0)] [] 1) = true := by kernel_rfl
theorem has105_10 : boolIs false (Eng.evF Tryz.prog 1000 50 73 [.iface 105 (.ptr 0 0)] [] 1) = true := by kernel_rfl
theorem has105_11 : boolIs false (Eng.evF Tryz.prog 1000 50 75 [.iface 105 (.ptr 0 0)] [] 1) = true := by kernel_rfl
theorem has105_12 : boolIs false (Eng.evF Tryz.prog 1000 50 77 [.iface 105 (.ptr 0 0)] [] 1) = true := by kernel_rfl
theorem has105_13 : boolIs false (Eng.evF Tryz.prog 1000 50 79 [.iface 105 (.ptr 0 0)] [] 1) = true := by kernel_rfl
theorem has94_0 : boolIs false (Eng.evF Tryz.prog 1000 50 53 [.iface 94 (.ptr 0 0)] [] 1) = true := by kernel_rfl
theorem has94_1 : boolIs false (Eng.evF Tryz.prog 1000 50 55 [.iface 94 (.ptr 0 0)] [] 1) = true := by kernel_rfl
theorem has94_2 : boolIs false (Eng.evF Tryz.prog 1000 50 57 [.iface 94 (.ptr 0 0)] [] 1) = true := by kernel_rfl
theorem has94_3 : boolIs false (Eng.evF Tryz.prog 1000 50 59 [.iface 94 (.ptr 0 0)] [] 1) = true := by kernel_rfl
theorem has94_4 : boolIs true (Eng.evF Tryz.prog 1000 50 61 [.iface 94 (.ptr 0 0)] [] 1) = true := by kernel_rfl
theorem has94_5 : boolIs false (Eng.evF Tryz.prog 1000 50 63 [.iface 94 (.ptr 0 0)] [] 1) = true := by kernel_rfl
theorem has94_6 : boolIs true (Eng.evF Tryz.prog 1000 50 65 [.iface 94 (.ptr 0 0)] [] 1) = true := by kernel_rfl
theorem has94_7 : boolIs false (Eng.evF Tryz.prog 1000 50 67 [.iface 94 (.ptr 0 0)] [] 1) = true := by kernel_rfl
theorem has94_8 : boolIs false (Eng.evF Tryz.prog 1000 50 69 [.iface 94 (.ptr 0 0)] [] 1) = true := by kernel_rfl
theorem has94_9 : boolIs false (Eng.evF Tryz.prog 1000 50 71 [.iface 94 (.ptr 0 0)] [] 1) = true := by kernel_rfl
theorem has94_10 : boolIs false (Eng.evF Tryz.prog 1000 50 73 [.iface 94 (.ptr 0 0)] [] 1) = true := by kernel_rfl
theorem has94_11 : boolIs false (Eng.evF Tryz.prog 1000 50 75 [.iface 94 (.ptr 0 0)] [] 1) = true := by kernel_rfl
theorem has94_12 : boolIs false (Eng.evF Tryz.prog 1000 50 77 [.iface 94 (.ptr 0 0)] [] 1) = true := by kernel_rfl
theorem has94_13 : boolIs false (Eng.evF Tryz.prog 1000 50 79 [.iface 94 (.ptr 0 0)] [] 1) = true := by kernel_rfl
theorem has99_0 : boolIs false (Eng.evF Tryz.prog 1000 50 53 [.iface 99 (.ptr 0 0)] [] 1) = true := by kernel_rfl
theorem has99_1 : boolIs false (Eng.evF Tryz.prog 1000 50 55 [.iface 99 (.ptr 0 0)] [] 1) = true := by kernel_rfl
theorem has99_2 : boolIs false (Eng.evF Tryz.prog 1000 50 57 [.iface 99 (.ptr 0 0)] [] 1) = true := by kernel_rfl
theorem has99_3 : boolIs false (Eng.evF Tryz.prog 1000 50 59 [.iface 99 (.ptr 0 0)] [] 1) = true := by kernel_rfl
theorem has99_4 : boolIs false (Eng.evF Tryz.prog 1000 50 61 [.iface 99 (.ptr 0 0)] [] 1) = true := by kernel_rfl
theorem has99_5 : boolIs false (Eng.evF Tryz.prog 1000 50 63 [.iface 99 (.ptr 0 0)] [] 1) = true := by kernel_rfl
theorem has99_6 : boolIs true (Eng.evF Tryz.prog 1000 50 65 [.iface 99 (.ptr 0 0)] [] 1) = true := by kernel_rfl
theorem has99_7 : boolIs true (Eng.evF Tryz.prog 1000 50 67 [.iface 99 (.ptr 0 0)] [] 1) = true := by kernel_rfl
theorem has99_8 : boolIs false (Eng.evF Tryz.prog 1000 50 69 [.iface 99 (.ptr 0 0)] [] 1) = true := by kernel_rfl
theorem has99_9 : boolIs false (Eng.evF Tryz.prog 1000 50 71 [.iface 99 (.ptr 0 0)] [] 1) = true := by kernel_rfl
theorem has99_10 : boolIs true (Eng.evF Tryz.prog 1000 50 73 [.iface 99 (.ptr 0 0)] [] 1) = true := by kernel_rfl
theorem has99_11 : boolIs false (Eng.evF Tryz.prog 1000 50 75 [.iface 99 (.ptr 0 0)] [] 1) = true := by kernel_rfl
theorem has99_12 : boolIs false (Eng.evF Tryz.prog 1000 50 77 [.iface 99 (.ptr 0 0)] [] 1) = true := by kernel_rfl
theorem has99_13 : boolIs false (Eng.evF Tryz.prog 1000 50 79 [.iface 99 (.ptr 0 0)] [] 1) = true := by kernel_rfl
theorem eng_bool {f : FuncId} {ty : TypeId} {b : Bool} (hh : boolIs b (Eng.evF Tryz.prog 1000 50 f [.iface ty (.ptr 0 0)] [] 1) = true) (w : World) (nb : Nat) :
    Calls Tryz.prog f #[.iface ty (.pointer (some ⟨nb, 0, none⟩))] w (RetB w (.bool b)) := by
  obtain ⟨h, nx, hr⟩ := boolIs_ok hh
  have H : Eng.HI w.heap.size w ⟨fun _ => nb, fun _ => 0⟩ [] 1 w := ⟨Below.refl _ _, Nat.le_refl _, fun n o hl => by simp [Eng.look] at hl, fun n m o o' hl => by simp [Eng.look] at hl⟩
  refine (Eng.evF_ok (by kernel_rfl) 1000 50 f _ [] 1 _ hr w.heap.size w _ w H rfl).mono fun e w' hp => ?_
  cases e with
  | returned u =>
    obtain ⟨E', _, _, _, hu, h4⟩ := hp
    exact ⟨by rw [hu]; rfl, h4.below⟩
  | panicked c => exact hp.elim
  | outgrown => exact hp.elim
/-- What a node's type tells of each ability. -/
def HasTy (ty : TypeId) (hs : List Bool) : Prop := hs.length = 14 ∧ ∀ i (h : i < 14) (w : World) (nb : Nat), Calls Tryz.prog (53 + 2 * i) #[.iface ty (.pointer (some ⟨nb, 0, none⟩))] w (RetB w (.bool (hs.getD i false)))
theorem hasTy159 : HasTy 159 has159 := ⟨rfl, fun i h w nb => by
  match i, h with
  | 0, _ => exact eng_bool has159_0 w nb
  | 1, _ => exact eng_bool has159_1 w nb
  | 2, _ => exact eng_bool has159_2 w nb
  | 3, _ => exact eng_bool has159_3 w nb
  | 4, _ => exact eng_bool has159_4 w nb
  | 5, _ => exact eng_bool has159_5 w nb
  | 6, _ => exact eng_bool has159_6 w nb
  | 7, _ => exact eng_bool has159_7 w nb
  | 8, _ => exact eng_bool has159_8 w nb
  | 9, _ => exact eng_bool has159_9 w nb
  | 10, _ => exact eng_bool has159_10 w nb
  | 11, _ => exact eng_bool has159_11 w nb
  | 12, _ => exact eng_bool has159_12 w nb
  | 13, _ => exact eng_bool has159_13 w nb⟩
theorem hasTy105 : HasTy 105 has105 := ⟨rfl, fun i h w nb => by
  match i, h with
  | 0, _ => exact eng_bool has105_0 w nb
  | 1, _ => exact eng_bool has105_1 w nb
  | 2, _ => exact eng_bool has105_2 w nb
  | 3, _ => exact eng_bool has105_3 w nb
  | 4, _ => exact eng_bool has105_4 w nb
  | 5, _ => exact eng_bool has105_5 w nb
  | 6, _ => exact eng_bool has105_6 w nb
  | 7, _ => exact eng_bool has105_7 w nb
  | 8, _ => exact eng_bool has105_8 w nb
  | 9, _ => exact eng_bool has105_9 w nb
  | 10, _ => exact eng_bool has105_10 w nb
  | 11, _ => exact eng_bool has105_11 w nb
  | 12, _ => exact eng_bool has105_12 w nb
  | 13, _ => exact eng_bool has105_13 w nb⟩
theorem hasTy94 : HasTy 94 has94 := ⟨rfl, fun i h w nb => by
  match i, h with
  | 0, _ => exact eng_bool has94_0 w nb
  | 1, _ => exact eng_bool has94_1 w nb
  | 2, _ => exact eng_bool has94_2 w nb
  | 3, _ => exact eng_bool has94_3 w nb
  | 4, _ => exact eng_bool has94_4 w nb
  | 5, _ => exact eng_bool has94_5 w nb
  | 6, _ => exact eng_bool has94_6 w nb
  | 7, _ => exact eng_bool has94_7 w nb
  | 8, _ => exact eng_bool has94_8 w nb
  | 9, _ => exact eng_bool has94_9 w nb
  | 10, _ => exact eng_bool has94_10 w nb
  | 11, _ => exact eng_bool has94_11 w nb
  | 12, _ => exact eng_bool has94_12 w nb
  | 13, _ => exact eng_bool has94_13 w nb⟩
theorem hasTy99 : HasTy 99 has99 := ⟨rfl, fun i h w nb => by
  match i, h with
  | 0, _ => exact eng_bool has99_0 w nb
  | 1, _ => exact eng_bool has99_1 w nb
  | 2, _ => exact eng_bool has99_2 w nb
  | 3, _ => exact eng_bool has99_3 w nb
  | 4, _ => exact eng_bool has99_4 w nb
  | 5, _ => exact eng_bool has99_5 w nb
  | 6, _ => exact eng_bool has99_6 w nb
  | 7, _ => exact eng_bool has99_7 w nb
  | 8, _ => exact eng_bool has99_8 w nb
  | 9, _ => exact eng_bool has99_9 w nb
  | 10, _ => exact eng_bool has99_10 w nb
  | 11, _ => exact eng_bool has99_11 w nb
  | 12, _ => exact eng_bool has99_12 w nb
  | 13, _ => exact eng_bool has99_13 w nb⟩
def ablesCells : List Eng.AV := [.raw (.string ⟨#[76, 105, 116, 101, 114, 97, 108]⟩), .raw (.func (.func 53) #[] #[]), .raw (.func (.func 54) #[] #[]), .raw (.string ⟨#[83, 116, 114, 105, 99, 116]⟩), .raw (.func (.func 55) #[] #[]), .raw (.func (.func 56) #[] #[]), .raw (.string ⟨#[76, 97, 122, 121]⟩), .raw (.func (.func 57) #[] #[]), .raw (.func (.func 58) #[] #[]), .raw (.string ⟨#[66, 105, 110, 100, 101, 114]⟩), .raw (.func (.func 59) #[] #[]), .raw (.func (.func 60) #[] #[]), .raw (.string ⟨#[85, 115, 101, 114]⟩), .raw (.func (.func 61) #[] #[]), .raw (.func (.func 62) #[] #[]), .raw (.string ⟨#[67, 97, 108, 108, 101, 114]⟩), .raw (.func (.func 63) #[] #[]), .raw (.func (.func 64) #[] #[]), .raw (.string ⟨#[80, 117, 114, 101]⟩), .raw (.func (.func 65) #[] #[]), .raw (.func (.func 66) #[] #[]), .raw (.string ⟨#[84, 111, 116, 97, 108]⟩), .raw (.func (.func 67) #[] #[]), .raw (.func (.func 68) #[] #[]), .raw (.string ⟨#[83, 111, 114, 116, 101, 100]⟩), .raw (.func (.func 69) #[] #[]), .raw (.func (.func 70) #[] #[]), .raw (.string ⟨#[83, 117, 103, 97, 114]⟩), .raw (.func (.func 71) #[] #[]), .raw (.func (.func 72) #[] #[]), .raw (.string ⟨#[70, 114, 97, 109, 101, 100]⟩), .raw (.func (.func 73) #[] #[]), .raw (.func (.func 74) #[] #[]), .raw (.string ⟨#[87, 114, 97, 112, 112, 101, 100]⟩), .raw (.func (.func 75) #[] #[]), .raw (.func (.func 76) #[] #[]), .raw (.string ⟨#[79, 114, 105, 103, 105, 110]⟩), .raw (.func (.func 77) #[] #[]), .raw (.func (.func 78) #[] #[]), .raw (.string ⟨#[79, 112, 97, 113, 117, 101]⟩), .raw (.func (.func 79) #[] #[]), .raw (.func (.func 80) #[] #[])]
def ablesV : List Value := [.string ⟨#[76, 105, 116, 101, 114, 97, 108]⟩, .func (.func 53) #[] #[], .func (.func 54) #[] #[], .string ⟨#[83, 116, 114, 105, 99, 116]⟩, .func (.func 55) #[] #[], .func (.func 56) #[] #[], .string ⟨#[76, 97, 122, 121]⟩, .func (.func 57) #[] #[], .func (.func 58) #[] #[], .string ⟨#[66, 105, 110, 100, 101, 114]⟩, .func (.func 59) #[] #[], .func (.func 60) #[] #[], .string ⟨#[85, 115, 101, 114]⟩, .func (.func 61) #[] #[], .func (.func 62) #[] #[], .string ⟨#[67, 97, 108, 108, 101, 114]⟩, .func (.func 63) #[] #[], .func (.func 64) #[] #[], .string ⟨#[80, 117, 114, 101]⟩, .func (.func 65) #[] #[], .func (.func 66) #[] #[], .string ⟨#[84, 111, 116, 97, 108]⟩, .func (.func 67) #[] #[], .func (.func 68) #[] #[], .string ⟨#[83, 111, 114, 116, 101, 100]⟩, .func (.func 69) #[] #[], .func (.func 70) #[] #[], .string ⟨#[83, 117, 103, 97, 114]⟩, .func (.func 71) #[] #[], .func (.func 72) #[] #[], .string ⟨#[70, 114, 97, 109, 101, 100]⟩, .func (.func 73) #[] #[], .func (.func 74) #[] #[], .string ⟨#[87, 114, 97, 112, 112, 101, 100]⟩, .func (.func 75) #[] #[], .func (.func 76) #[] #[], .string ⟨#[79, 114, 105, 103, 105, 110]⟩, .func (.func 77) #[] #[], .func (.func 78) #[] #[], .string ⟨#[79, 112, 97, 113, 117, 101]⟩, .func (.func 79) #[] #[], .func (.func 80) #[] #[]]
def ablesChk : Option Eng.FR → Bool
  | some (.ret (.slc a 0 14 14) h _) => match Eng.look h a with
    | some (.blk 134 cs none) => Eng.abL cs ablesCells
    | _ => false
  | _ => false
theorem ablesChk_ok {r : Option Eng.FR} (hh : ablesChk r = true) : ∃ a h nx, r = some (.ret (.slc a 0 14 14) h nx) ∧ Eng.look h a = some (.blk 134 ablesCells none) := by
  unfold ablesChk at hh
  split at hh
  · rename_i a h nx
    split at hh
    · rename_i cs h1
      have := Eng.abL_ok _ _ hh
      subst this
      exact ⟨a, h, nx, rfl, h1⟩
    · cases hh
  · cases hh
theorem ables_told : ablesChk (Eng.evF Tryz.prog 1000 50 37 [] [] 0) = true := by kernel_rfl
theorem ables_any (w : World) : Calls Tryz.prog 37 #[] w fun e w' => ∃ b, e = .returned (.slice (some ⟨b, 0, none⟩) 14 14) ∧ w'.heap[b]? = some (.cells ablesV.toArray 134 (0, 0)) ∧ w.heap.size ≤ b ∧ Below w.heap.size w w' := by
  obtain ⟨a, h, nx, hr, h1⟩ := ablesChk_ok ables_told
  have H : Eng.HI w.heap.size w ⟨fun n => n, fun _ => 0⟩ [] 0 w := ⟨Below.refl _ _, Nat.le_refl _, fun n o hl => by simp [Eng.look] at hl, fun n m o o' hl => by simp [Eng.look] at hl⟩
  refine (Eng.evF_ok (by kernel_rfl) 1000 50 37 _ [] 0 _ hr w.heap.size w _ w H rfl).mono fun e w' hp => ?_
  cases e with
  | returned u =>
    obtain ⟨E', _, _, _, hu, h4⟩ := hp
    obtain ⟨_, g1, _, g2⟩ := h4.ent a _ h1
    exact ⟨E'.ρ a, by rw [hu]; rfl, g2, g1, h4.below⟩
  | panicked c => exact hp.elim
  | outgrown => exact hp.elim
theorem ables_cells {w : World} {b : Nat} (h : w.heap[b]? = some (.cells ablesV.toArray 134 (0, 0))) (i : Nat) (hi : i < 14) : w.cell? ⟨b, i * 3, none⟩ = some (.string (abN.getD i ⟨#[]⟩)) ∧ w.cell? ⟨b, i * 3 + 1, none⟩ = some (.func (.func (53 + 2 * i)) #[] #[]) ∧ w.cell? ⟨b, i * 3 + 2, none⟩ = some (.func (.func (54 + 2 * i)) #[] #[]) := by
  refine ⟨(heapcell h _).1.trans ?_, (heapcell h _).1.trans ?_, (heapcell h _).1.trans ?_⟩
  all_goals
    match i, hi with
    | 0, _ => rfl
    | 1, _ => rfl
    | 2, _ => rfl
    | 3, _ => rfl
    | 4, _ => rfl
    | 5, _ => rfl
    | 6, _ => rfl
    | 7, _ => rfl
    | 8, _ => rfl
    | 9, _ => rfl
    | 10, _ => rfl
    | 11, _ => rfl
    | 12, _ => rfl
    | 13, _ => rfl
theorem ab_call (i : Nat) (hi : i < 14) (v : Value) (w : World) : (callFunc (53 + 2 * i) #[v]).run Tryz.prog w = .ok (.enter (53 + 2 * i) #[v]) w := by
  match i, hi with
  | 0, _ =>
    show (callFunc 53 #[v]).run Tryz.prog w = .ok (.enter 53 #[v]) w
    kernel_rfl
  | 1, _ =>
    show (callFunc 55 #[v]).run Tryz.prog w = .ok (.enter 55 #[v]) w
    kernel_rfl
  | 2, _ =>
    show (callFunc 57 #[v]).run Tryz.prog w = .ok (.enter 57 #[v]) w
    kernel_rfl
  | 3, _ =>
    show (callFunc 59 #[v]).run Tryz.prog w = .ok (.enter 59 #[v]) w
    kernel_rfl
  | 4, _ =>
    show (callFunc 61 #[v]).run Tryz.prog w = .ok (.enter 61 #[v]) w
    kernel_rfl
  | 5, _ =>
    show (callFunc 63 #[v]).run Tryz.prog w = .ok (.enter 63 #[v]) w
    kernel_rfl
  | 6, _ =>
    show (callFunc 65 #[v]).run Tryz.prog w = .ok (.enter 65 #[v]) w
    kernel_rfl
  | 7, _ =>
    show (callFunc 67 #[v]).run Tryz.prog w = .ok (.enter 67 #[v]) w
    kernel_rfl
  | 8, _ =>
    show (callFunc 69 #[v]).run Tryz.prog w = .ok (.enter 69 #[v]) w
    kernel_rfl
  | 9, _ =>
    show (callFunc 71 #[v]).run Tryz.prog w = .ok (.enter 71 #[v]) w
    kernel_rfl
  | 10, _ =>
    show (callFunc 73 #[v]).run Tryz.prog w = .ok (.enter 73 #[v]) w
    kernel_rfl
  | 11, _ =>
    show (callFunc 75 #[v]).run Tryz.prog w = .ok (.enter 75 #[v]) w
    kernel_rfl
  | 12, _ =>
    show (callFunc 77 #[v]).run Tryz.prog w = .ok (.enter 77 #[v]) w
    kernel_rfl
  | 13, _ =>
    show (callFunc 79 #[v]).run Tryz.prog w = .ok (.enter 79 #[v]) w
    kernel_rfl
/-- The names of the abilities that are had, of so many. -/
def hadN (hs : List Bool) (i : Nat) : List ByteArray := ((abN.zip hs).take i).filterMap (fun p => if p.2 then some p.1 else none)
theorem hadN_next {hs : List Bool} (hl : hs.length = 14) {i : Nat} (hi : i < 14) : hadN hs (i + 1) = if hs.getD i false then hadN hs i ++ [abN.getD i ⟨#[]⟩] else hadN hs i := by
  have hz : i < (abN.zip hs).length := by rw [List.length_zip, hl]; exact (by show i < min 14 14; omega)
  have h1 : (abN.zip hs).take (i + 1) = (abN.zip hs).take i ++ [(abN.zip hs)[i]] := List.take_succ_eq_append_getElem hz
  have ha : i < abN.length := by show i < 14; exact hi
  have hb : i < hs.length := by omega
  unfold hadN
  rw [h1, List.filterMap_append, List.getElem_zip, List.getD_eq_getElem?_getD, List.getD_eq_getElem?_getD, List.getElem?_eq_getElem hb, List.getElem?_eq_getElem ha]
  cases hs[i] <;> simp
theorem hadN_len (hs : List Bool) (i : Nat) : (hadN hs i).length ≤ i := by
  unfold hadN
  refine Nat.le_trans (List.length_filterMap_le _ _) ?_
  rw [List.length_take]; omega
theorem info9 : (Tryz.prog.info? 9).map (fun i => (i.zero, i.size, i.bytes)) = some (some (.string ⟨#[]⟩), 1, 16) := by kernel_rfl
/-- A list of names of one's own. -/
def NamesAt (base : Nat) (w : World) (l : List ByteArray) (v : Value) : Prop := w.ownsRow base 9 1 v l.length (l.map .string)
set_option maxHeartbeats 4000000 in
theorem abil_any (w : World) (hb nb : Nat) (ty : TypeId) (hs : List Bool) (hty : HasTy ty hs) (hh : HdAt w hb ty (.pointer (some ⟨nb, 0, none⟩))) :
    Calls Tryz.prog 14 #[.pointer (some ⟨hb, 0, none⟩)] w fun e w' => ∃ v, e = .returned v ∧ NamesAt w.heap.size w' (hadN hs 14) v ∧ Below w.heap.size w w' := by
  have HH := Lib.hid hh
  have HTY := Lib.hid hty
  obtain ⟨i0, hi0, hz0, hz1, hz2⟩ := info_parts info9
  have HI0 := Lib.hid hi0
  have HZ0 := Lib.hid hz0
  have HZ1 := Lib.hid hz1
  have HZ2 := Lib.hid hz2
  clear hh hty hi0 hz0 hz1 hz2
  go_enter Tryz.func14, Tryz.ntmps14
  go_wp2_with fail
  refine (holds_any w hb _ _ HH.out).mono ?_
  rintro e w' ⟨rfl, rfl⟩
  go_wp2_with fail
  refine (ables_any _).mono ?_
  rintro e w1 ⟨b, rfl, hab, hbl, hb1⟩
  have HAB := Lib.hid hab
  have HBL := Lib.hid hbl
  have HB1 := Lib.hid hb1
  clear hab hbl hb1
  go_wp2_with fail
  go_loopw [3, 11] (fun lv iv wr => ∃ i : Nat, i ≤ 14 ∧ iv = .int .i64 i ∧ Hid (wr.heap[b]? = some (.cells ablesV.toArray 134 (0, 0))) ∧ Hid (NamesAt w'.heap.size wr (hadN hs i) lv) ∧ Hid (Below w'.heap.size w' wr) ∧ Hid (∀ g, lv.ownBlock = some g → g ≠ b)) (fun _ iv _ => 14 - (intOf iv).toNat)
  case atStart => exact ⟨0, by omega, rfl, HAB, Lib.hid ⟨rfl, .inl ⟨rfl, rfl⟩⟩, HB1, Lib.hid (by simp [Value.ownBlock])⟩
  case round =>
    obtain ⟨i, hi, rfl, hab, hnm, hB, hne⟩ := hrel
    by_cases hlt : i < 14
    · have hltI : (i : Int) < 14 := by omega
      obtain ⟨x0, x1, x2⟩ := ables_cells hab.out i hlt
      have HX := Lib.hid (ables_cells hab.out i hlt)
      have hhr := (hB.out.block hb (Array.getElem?_eq_some_iff.1 HH.out).1).trans HH.out
      have HHR := Lib.hid hhr
      have hbr := (Array.getElem?_eq_some_iff.1 hab.out).1
      have HBR := Lib.hid hbr
      generalize hnmi : abN.getD i ⟨#[]⟩ = nm at x0
      have HNM := Lib.hid hnmi
      have hob : ∀ o, (wr.alloc o).heap[hb]? = some (.cells #[.iface ty (.pointer (some ⟨nb, 0, none⟩))] 121 (0, 0)) := fun o => (Below.heap_alloc wr _ _ (Array.getElem?_eq_some_iff.1 hhr).1).trans hhr
      have y0 : (wr.alloc (.cells #[.string nm, .func (.func (53 + 2 * i)) #[] #[], .func (.func (54 + 2 * i)) #[] #[]] 134)).cell? ⟨hb, 0, none⟩ = some (.iface ty (.pointer (some ⟨nb, 0, none⟩))) := (heapcell (hob (.cells #[.string nm, .func (.func (53 + 2 * i)) #[] #[], .func (.func (54 + 2 * i)) #[] #[]] 134)) 0).1
      have hz := heap_alloc_new wr (.cells #[.string nm, .func (.func (53 + 2 * i)) #[] #[], .func (.func (54 + 2 * i)) #[] #[]] 134)
      have z1 : (wr.alloc (.cells #[.string nm, .func (.func (53 + 2 * i)) #[] #[], .func (.func (54 + 2 * i)) #[] #[]] 134)).cell? ⟨wr.heap.size, 1, none⟩ = some (.func (.func (53 + 2 * i)) #[] #[]) := (heapcell hz 1).1
      have hBa := hB.out.trans ((alloc_below wr (.cells #[.string nm, .func (.func (53 + 2 * i)) #[] #[], .func (.func (54 + 2 * i)) #[] #[]] 134)).mono hB.out.size)
      have HBa := Lib.hid hBa
      have HZ := Lib.hid hz
      have HAL : Hid (Below wr.heap.size wr (wr.alloc (.cells #[.string nm, .func (.func (53 + 2 * i)) #[] #[], .func (.func (54 + 2 * i)) #[] #[]] 134))) := Lib.hid (alloc_below wr _)
      obtain ⟨la, lc, rfl⟩ := own_slice hnm.out
      clear hnmi hob hz hBa hhr hbr
      go_wp2_with fail
      generalize (wr.alloc (.cells #[.string nm, .func (.func (53 + 2 * i)) #[] #[], .func (.func (54 + 2 * i)) #[] #[]] 134)) = W at y0 z1 HZ HBa HAL ⊢
      go_still_tail 6, (by kernel_rfl)
      change wpList _ _ _ _ _ (World.drew _)
      go_wp2_with fail
      rw [ab_call i hlt, Oper.upon_enter]
      refine (HTY.out.2 i hlt _ nb).mono ?_
      rintro e w2 ⟨rfl, hb2⟩
      have hb2' : Below W.heap.size W w2 := ((Below.refl W.heap.size W).drew).trans hb2
      have HB2 := Lib.hid (HBa.out.trans (hb2'.mono HBa.out.size))
      have HAB2 := Lib.hid ((hb2'.block b (Nat.lt_of_lt_of_le HBR.out HAL.out.size)).trans ((HAL.out.block b HBR.out).trans hab.out))
      have HOW : Hid (NamesAt w'.heap.size w2 (hadN hs i) (.slice la (hadN hs i).length lc)) := Lib.hid (ownsRow_keep hnm.out (fun g hg => (hb2'.block g (Nat.lt_of_lt_of_le (hnm.out.lt g hg).2 HAL.out.size)).trans (HAL.out.block g (hnm.out.lt g hg).2)))
      have hz2 := (hb2'.block wr.heap.size (Array.getElem?_eq_some_iff.1 HZ.out).1).trans HZ.out
      have w0 : w2.cell? ⟨wr.heap.size, 0, none⟩ = some (.string nm) := (heapcell hz2 0).1
      have HS2 : Hid (wr.heap.size ≤ w2.heap.size) := Lib.hid (Nat.le_trans HAL.out.size hb2'.size)
      have HNE := Lib.hid (hadN_next HTY.out.1 hlt)
      have hll := hadN_len hs i
      clear hb2 hb2' hz2 y0 z1 x0 x1 x2
      cases hbit : hs.getD i false
      · rw [hbit] at HNE
        clear hbit
        go_wp2_with fail
        go_roundw
        case rel =>
          refine ⟨i + 1, by omega, by go_num, HAB2, Lib.hid ?_, HB2, hne⟩
          rw [HNE.out]; exact HOW.out
        case measure => simp [intOf]; omega
      · rw [hbit] at HNE
        clear hbit
        obtain ⟨HL, hHL⟩ : ∃ n, n = (hadN hs i).length := ⟨_, rfl⟩
        have HHL := Lib.hid hHL
        rw [← hHL] at hll
        simp only [← hHL]
        have HNEQ : Hid (∀ g, (Value.slice la HL lc).ownBlock = some g → g ≠ b) := Lib.hid (by rw [hHL]; exact hne.out)
        have HOW2 : Hid (w2.ownsRow w'.heap.size 9 1 (.slice la HL lc) HL ((hadN hs i).map .string)) := Lib.hid (by rw [hHL]; exact HOW.out)
        clear hHL
        go_wp2_with (at_builtin; refine wpList_append_own_at _ rfl _ _ 61 rfl w'.heap.size 9 i0 _ 1 16 Tryz.underlying61 HI0.out HZ0.out HZ1.out HZ2.out rfl (by decide) _ _ _ rfl (HOW2.out.alloc _) ⟨w2.heap.size, 0, none⟩ 1 1 [.string nm] rfl rfl ?c1 ?c2 ?c3 ?c4 ?c5 ?_)
        case c2 => rfl
        case c3 => unfold maxLen; omega
        case c4 => omega
        case c5 => have := HB2.out.size; simp; omega
        intro lv' w3 hown3 hgrow _ hblk
        obtain ⟨la', lc', rfl⟩ := own_slice hown3
        have hold : ∀ g, g < w2.heap.size → (Value.slice la HL lc).ownBlock ≠ some g → w3.heap[g]? = w2.heap[g]? := fun g hg hn => (hgrow.block g (by simp; omega) (fun e => hn e.symm)).trans (Below.heap_alloc _ _ _ hg)
        have hs3 := hgrow.size
        simp at hs3
        have hlo : ∀ g, (Value.slice la HL lc).ownBlock = some g → w'.heap.size ≤ g ∧ g ≠ b := fun g hg => ⟨(HOW2.out.lt g hg).1, HNEQ.out g hg⟩
        have HAB3 := Lib.hid ((hold b (by have := HS2.out; have := HBR.out; omega) (fun e => (hlo b e).2 rfl)).trans HAB2.out)
        have hB3 : Below w'.heap.size w' w3 := by
          have h2 := HB2.out
          refine ⟨hgrow.os.trans h2.os, hgrow.tape.trans h2.tape, hgrow.output.trans h2.output, by have := h2.size; omega, fun g hg => ?_⟩
          rw [hold g (by have := h2.size; omega) (fun e => by have := (hlo g e).1; omega)]
          exact h2.block g hg
        have HB3 := Lib.hid hB3
        have HNM3 : Hid (NamesAt w'.heap.size w3 (hadN hs (i + 1)) (.slice la' (HL + 1) lc')) := Lib.hid (by
          rw [HNE.out, if_pos trivial]
          unfold NamesAt
          rw [HNM.out, List.length_append, List.map_append, ← HHL.out]
          exact hown3)
        have HNB : Hid (∀ g, (Value.slice la' (HL + 1) lc').ownBlock = some g → g ≠ b) := Lib.hid (fun g e => by
          rcases hblk with h | h
          · exact HNEQ.out g (h.symm.trans e)
          · rw [h] at e; simp at e; have := HS2.out; have := HBR.out; omega)
        clear hown3 hgrow hblk hold hlo hs3 hB3
        go_wp2_with fail
        go_roundw
        case rel => exact ⟨i + 1, by omega, by go_num, HAB3, HNM3, HB3, HNB⟩
        case measure => simp [intOf]; omega
    · obtain rfl : i = 14 := by omega
      go_wp2_with fail
      go_ret
      exact ⟨_, rfl, hnm.out, hB.out⟩
end

section
open Go.RowKit
set_option maxRecDepth 100000
theorem info3 : (Tryz.prog.info? 3).map (fun i => (i.zero, i.size, i.bytes)) = some (some (.int .i64 0), 1, 8) := by kernel_rfl
/-- A node that tells a place. -/
def PlacedAt (w : World) (pb : Nat) (ty : TypeId) (u : Value) (f : ByteArray) (l : List Int) : Prop := ∃ pv, w.heap[pb]? = some (.cells #[.iface ty u, .string f, pv] 163 (0, 0)) ∧ PathAt w l pv
theorem PlacedAt.below {w w' : World} {pb : Nat} {ty : TypeId} {u : Value} {f : ByteArray} {l : List Int} (h : PlacedAt w pb ty u f l) (hb : Below w.heap.size w w') : PlacedAt w' pb ty u f l := by
  obtain ⟨pv, h1, h2⟩ := h
  exact ⟨pv, heap_keep h1 hb, h2.below hb⟩
def ints (l : List Int) : List Value := l.map (.int .i64)
/-- A path of one's own. -/
def OwnPath (base : Nat) (w : World) (l : List Int) (v : Value) : Prop := w.ownsRow base 3 1 v l.length (ints l)
def FromE (w : World) (f : ByteArray) (l : List Int) (e : Ending) (w' : World) : Prop := ∃ v, e = .returned (.agg #[.string f, v]) ∧ OwnPath w.heap.size w' l v ∧ Below w.heap.size w w'
theorem path_news {w : World} {l : List Int} {b o : Nat} (h : ∀ i (h : i < l.length), w.cell? ⟨b, o + i, none⟩ = some (.int .i64 l[i])) : ∀ j u, (ints l)[j]? = some u → w.cell? ((⟨b, o, none⟩ : Addr).add j) = some u := fun j u hu => by
  unfold ints at hu
  rw [List.getElem?_map] at hu
  have hj : j < l.length := by
    rcases Nat.lt_or_ge j l.length with h1 | h1
    · exact h1
    · rw [List.getElem?_eq_none h1] at hu; cases hu
  rw [List.getElem?_eq_getElem hj] at hu
  simp only [Option.map_some, Option.some.injEq] at hu
  rw [show (⟨b, o, none⟩ : Addr).add j = ⟨b, o + j, none⟩ from by unfold Addr.add; split <;> simp_all, h j hj, hu]
theorem ints_len (l : List Int) : (ints l).length = l.length := by simp [ints]
theorem ints_one (l : List Int) : ∀ u ∈ ints l, u.oneCell' = true := fun u hu => by
  obtain ⟨x, _, rfl⟩ := List.mem_map.1 hu
  rfl
theorem set2b {w wr : World} {R : Nat} (hB : Below w.heap.size w wr) (hR : w.heap.size ≤ R) (a b : Value) : Below w.heap.size w ((wr.setCell ⟨R, 0, none⟩ a).setCell ⟨R, 1, none⟩ b) :=
  (hB.setCell (p := ⟨R, 0, none⟩) hR a).setCell (p := ⟨R, 1, none⟩) hR b
set_option maxHeartbeats 4000000 in
theorem from_any (w : World) (pb : Nat) (ty : TypeId) (u : Value) (f : ByteArray) (l : List Int) (h : PlacedAt w pb ty u f l) (hl : l.length ≤ 63) : Calls Tryz.prog 125 #[.pointer (some ⟨pb, 0, none⟩)] w (FromE w f l) := by
  obtain ⟨pv, h1, la, lc, rfl, h2⟩ := h
  have hlt := (Array.getElem?_eq_some_iff.1 h1).1
  have hb0 := alloc_below w (.cells #[.string ⟨#[]⟩, .slice none 0 0] 27)
  have h1a := heap_keep h1 hb0
  have hz := heap_alloc_new w (.cells #[.string ⟨#[]⟩, .slice none 0 0] 27)
  have c1 : (w.alloc (.cells #[.string ⟨#[]⟩, .slice none 0 0] 27)).cell? ⟨pb, 1, none⟩ = some (.string f) := (heapcell h1a 1).1
  have c2 : (w.alloc (.cells #[.string ⟨#[]⟩, .slice none 0 0] 27)).cell? ⟨pb, 2, none⟩ = some (.slice la l.length lc) := (heapcell h1a 2).1
  have HB0 := Lib.hid hb0
  have HPH := Lib.hid h1a
  have HPL := Lib.hid hlt
  have HZ := Lib.hid hz
  obtain ⟨i0, hi, hz0, hz1, hz2⟩ := info_parts info3
  have HI := Lib.hid (And.intro hi (And.intro hz0 (And.intro hz1 hz2)))
  clear hi hz0 hz1 hz2 h1 h1a hb0 hz
  by_cases hl0 : l = []
  · subst hl0
    go_enter Tryz.func125, Tryz.ntmps125
    go_wp2_with fail
    generalize (w.alloc (.cells #[.string ⟨#[]⟩, .slice none 0 0] 27)) = W at HB0 HPH HZ c1 c2 ⊢
    obtain ⟨N, hN⟩ : ∃ N, N = w.heap.size := ⟨_, rfl⟩
    simp only [← hN]
    have hz := HZ.out
    rw [← hN] at hz
    have z0 : W.cell? ⟨N, 0, none⟩ = some (.string ⟨#[]⟩) := (heapcell hz 0).1
    have z1 : W.cell? ⟨N, 1, none⟩ = some (.slice none 0 0) := (heapcell hz 1).1
    have y0 := (heapcell hz 0).2
    have y1 := (heapcell hz 1).2
    have HN := Lib.hid hN
    clear hz hN
    cases la <;> go_region
    all_goals
      go_wp2_with fail
      refine bodyPost_ret (v := .agg #[.string f, .slice none 0 0]) (by simp [results, Tryz.results125, go_sem, z0, z1]) rfl ?_
      exact ⟨_, rfl, ⟨rfl, .inl ⟨rfl, rfl⟩⟩, (set2b HB0.out (by have := HN.out; omega) _ _).drew⟩
  · obtain ⟨b, o, rfl, hc⟩ := h2 hl0
    have HNW := Lib.hid (path_news hc)
    have hpos : 0 < l.length := List.length_pos_iff.2 hl0
    have HNP := Lib.hid hpos
    go_enter Tryz.func125, Tryz.ntmps125
    go_wp2_with fail
    obtain ⟨N, hN⟩ : ∃ N, N = w.heap.size := ⟨_, rfl⟩
    simp only [← hN]
    have HW0 : Hid (∀ j u, (ints l)[j]? = some u → (w.alloc (.cells #[.string ⟨#[]⟩, .slice none 0 0] 27)).cell? ((⟨b, o, none⟩ : Addr).add j) = some u) := Lib.hid (fun j u hu => cell_stepA (HNW.out j u hu) HB0.out)
    have hsz : (w.alloc (.cells #[.string ⟨#[]⟩, .slice none 0 0] 27)).heap.size = N + 1 := by simp [hN]
    generalize (w.alloc (.cells #[.string ⟨#[]⟩, .slice none 0 0] 27)) = W at HB0 HPH HZ c1 c2 HW0 hsz ⊢
    have hz := HZ.out
    rw [← hN] at hz
    have HZ2 := Lib.hid hz
    have HN := Lib.hid hN
    have HWD : Hid (∀ j u, (ints l)[j]? = some u → W.drew.cell? ((⟨b, o, none⟩ : Addr).add j) = some u) := HW0
    have HL1 := Lib.hid (ints_one l)
    have HLL : Hid ((ints l).length = l.length * 1) := Lib.hid (by simp [ints])
    have HSZ : Hid (W.drew.heap.size = N + 1) := Lib.hid hsz
    have HOW : Hid (W.drew.ownsRow (N + 1) 3 1 (.slice none 0 0) 0 []) := Lib.hid ⟨rfl, .inl ⟨rfl, rfl⟩⟩
    have HMX : Hid (0 + l.length ≤ maxLen) := Lib.hid (by unfold maxLen; omega)
    have HBY : Hid ((0 + l.length) * 8 ≤ 140737488355328) := Lib.hid (by omega)
    have HBS : Hid (N + 1 ≤ W.drew.heap.size) := Lib.hid (by rw [HSZ.out]; exact Nat.le_refl _)
    clear hz hN hsz hc
    go_region_law (refine step_append_lies _ (by rfl) _ _ _ (by rfl) (N + 1) 3 i0 (.int .i64 0) 1 8 Tryz.underlying25 HI.out.1 HI.out.2.1 HI.out.2.2.1 HI.out.2.2.2 (by rfl) (by decide) _ _ _ (by rfl) HOW.out ⟨b, o, none⟩ l.length lc (ints l) (by rfl) HLL.out HWD.out HL1.out HNP.out HMX.out HBY.out HBS.out _ rfl ?_; intro g2 cap2 w1 hown1 hgrow1 hat1 hlt1; have hq := (hgrow1.block N (by rw [HSZ.out]; omega) (by simp [Value.ownBlock])).trans HZ2.out; obtain ⟨q0, f0⟩ := heapcell hq 0; obtain ⟨q1, f1⟩ := heapcell hq 1; have hpf : w1.cell? ⟨pb, 1, none⟩ = some (.string f) := (heapcell ((hgrow1.block pb (by rw [HSZ.out]; have := HPL.out; have := HN.out; omega) (by simp [Value.ownBlock])).trans HPH.out) 1).1)
    all_goals
      have HOWN := Lib.hid hown1
      have HGR := Lib.hid hgrow1
      have p0 : w1.cell? ⟨N, 0, none⟩ = some (.string ⟨#[]⟩) := q0
      have p1 : w1.cell? ⟨N, 1, none⟩ = some (.slice none 0 0) := q1
      clear hown1 hgrow1 hat1 q0 q1
      go_wp2_with fail
      refine bodyPost_ret (v := .agg #[.string f, .slice (some ⟨g2, 0, none⟩) l.length cap2]) (by simp [results, Tryz.results125, go_sem, p0, p1]) rfl ?_
      have hNw := HN.out
      have hg := HGR.out
      have hB1 : Below w.heap.size w w1 := ⟨hg.os.trans HB0.out.os, hg.tape.trans HB0.out.tape, hg.output.trans HB0.out.output, by have := hg.size; have := HSZ.out; omega, fun b hb => (hg.block b (by have := HSZ.out; omega) (by simp [Value.ownBlock])).trans (HB0.out.block b hb)⟩
      have how := HOWN.out
      simp only [Nat.zero_add, List.nil_append] at how
      have how2 : ∀ x y, ((w1.setCell ⟨N, 0, none⟩ x).setCell ⟨N, 1, none⟩ y).ownsRow (N + 1) 3 1 (.slice (some ⟨g2, 0, none⟩) l.length cap2) l.length (ints l) := fun x y => ownsRow_keep how (fun g hg => by
        have := (how.lt g hg).1
        rw [heap_set_ne _ (by omega), heap_set_ne _ (by omega)])
      have lower : ∀ (W : World), W.ownsRow (N + 1) 3 1 (.slice (some ⟨g2, 0, none⟩) l.length cap2) l.length (ints l) → OwnPath w.heap.size W l (.slice (some ⟨g2, 0, none⟩) l.length cap2) := fun W h => ⟨h.1, h.2.imp id fun ⟨g, cap, cur, e1, e2, e3⟩ => ⟨g, cap, cur, e1, by omega, e3⟩⟩
      first
      | exact ⟨_, rfl, lower _ (how2 _ _), set2b hB1 (by omega) _ _⟩
      | exact ⟨_, rfl, lower _ (ownsRow_keep (how2 _ _) (fun _ _ => rfl)), (set2b hB1 (by omega) _ _).drew⟩
end

section
open Go.RowKit
set_option maxRecDepth 100000
theorem addr_add0 (b j : Nat) : (⟨b, 0, none⟩ : Addr).add j = ⟨b, j, none⟩ := by unfold Addr.add; split <;> simp_all
def AtE (w : World) (ty : TypeId) (u : Value) (f : ByteArray) (l : List Int) (e : Ending) (w' : World) : Prop := ∃ pb, e = .returned (.iface 159 (.pointer (some ⟨pb, 0, none⟩))) ∧ PlacedAt w' pb ty u f l ∧ w.heap.size ≤ pb ∧ Below w.heap.size w w'
theorem at_done {w w1 : World} {ty : TypeId} {u : Value} {f : ByteArray} {l : List Int} {pv : Value} (hb : Below w.heap.size w w1) (hp : PathAt w1 l pv) :
    AtE w ty u f l (.returned (.iface 159 (.pointer (some ⟨w1.heap.size, 0, none⟩)))) (w1.alloc (.cells #[.iface ty u, .string f, pv] 163)) :=
  ⟨_, rfl, ⟨pv, heap_alloc_new _ _, hp.below (alloc_below _ _)⟩, hb.size, below_allocA hb _⟩
theorem at_done2 {w w1 : World} {ty : TypeId} {u : Value} {f : ByteArray} {l : List Int} {pv : Value} (hb : Below w.heap.size w w1) (hp : PathAt w1 l pv) :
    AtE w ty u f l (.returned (.iface 159 (.pointer (some ⟨w1.heap.size, 0, none⟩)))) (w1.alloc (.cells #[.iface ty u, .string f, pv] 163)).drew := by
  obtain ⟨pb, e, ⟨pv', h1, h2⟩, h3, h4⟩ := at_done (ty := ty) (u := u) (f := f) hb hp
  exact ⟨pb, e, ⟨pv', h1, h2⟩, h3, h4.drew⟩
set_option maxHeartbeats 4000000 in
theorem at_any (w : World) (ty : TypeId) (u : Value) (f : ByteArray) (l : List Int) (v : Value) (h : PlaceAt w f l v) (hl : l.length ≤ 63) : Calls Tryz.prog 33 #[.iface ty u, v] w (AtE w ty u f l) := by
  obtain ⟨_, _, pv, rfl, la, lc, rfl, h2⟩ := h
  have hb0 := alloc_below w (.cells #[.string f, .slice la l.length lc] 27)
  have hz := heap_alloc_new w (.cells #[.string f, .slice la l.length lc] 27)
  have HB0 := Lib.hid hb0
  have HZ := Lib.hid hz
  obtain ⟨i0, hi, hz0, hz1, hz2⟩ := info_parts info3
  have HI := Lib.hid (And.intro hi (And.intro hz0 (And.intro hz1 hz2)))
  clear hi hz0 hz1 hz2 hb0 hz
  by_cases hl0 : l = []
  · subst hl0
    go_enter Tryz.func33, Tryz.ntmps33
    go_wp2_with fail
    generalize (w.alloc (.cells #[.string f, .slice la ([] : List Int).length lc] 27)) = W at HB0 HZ ⊢
    obtain ⟨N, hN⟩ : ∃ N, N = w.heap.size := ⟨_, rfl⟩
    simp only [← hN]
    have hz := HZ.out
    rw [← hN] at hz
    have z0 : W.cell? ⟨N, 0, none⟩ = some (.string f) := (heapcell hz 0).1
    have z1 : W.cell? ⟨N, 1, none⟩ = some (.slice la 0 lc) := (heapcell hz 1).1
    have HN := Lib.hid hN
    clear hz hN
    cases la <;> go_region
    all_goals
      go_wp2_with fail
      go_ret
      first
      | exact at_done HB0.out ⟨none, 0, rfl, fun h => (h rfl).elim⟩
      | exact at_done2 HB0.out ⟨none, 0, rfl, fun h => (h rfl).elim⟩
      | exact at_done HB0.out.drew ⟨none, 0, rfl, fun h => (h rfl).elim⟩
  · obtain ⟨b, o, rfl, hc⟩ := h2 hl0
    have HNW := Lib.hid (path_news hc)
    have hpos : 0 < l.length := List.length_pos_iff.2 hl0
    have HNP := Lib.hid hpos
    go_enter Tryz.func33, Tryz.ntmps33
    go_wp2_with fail
    obtain ⟨N, hN⟩ : ∃ N, N = w.heap.size := ⟨_, rfl⟩
    simp only [← hN]
    have HW0 : Hid (∀ j u, (ints l)[j]? = some u → (w.alloc (.cells #[.string f, .slice (some ⟨b, o, none⟩) l.length lc] 27)).cell? ((⟨b, o, none⟩ : Addr).add j) = some u) := Lib.hid (fun j u hu => cell_stepA (HNW.out j u hu) HB0.out)
    have hsz : (w.alloc (.cells #[.string f, .slice (some ⟨b, o, none⟩) l.length lc] 27)).heap.size = N + 1 := by simp [hN]
    generalize (w.alloc (.cells #[.string f, .slice (some ⟨b, o, none⟩) l.length lc] 27)) = W at HB0 HZ HW0 hsz ⊢
    have hz := HZ.out
    rw [← hN] at hz
    have z0 : W.cell? ⟨N, 0, none⟩ = some (.string f) := (heapcell hz 0).1
    have z1 : W.cell? ⟨N, 1, none⟩ = some (.slice (some ⟨b, o, none⟩) l.length lc) := (heapcell hz 1).1
    have HZ2 := Lib.hid hz
    have HN := Lib.hid hN
    have HWD : Hid (∀ j u, (ints l)[j]? = some u → W.drew.cell? ((⟨b, o, none⟩ : Addr).add j) = some u) := HW0
    have HL1 := Lib.hid (ints_one l)
    have HLL : Hid ((ints l).length = l.length * 1) := Lib.hid (by simp [ints])
    have HSZ : Hid (W.drew.heap.size = N + 1) := Lib.hid hsz
    have HOW : Hid (W.drew.ownsRow (N + 1) 3 1 (.slice none 0 0) 0 []) := Lib.hid ⟨rfl, .inl ⟨rfl, rfl⟩⟩
    have HMX : Hid (0 + l.length ≤ maxLen) := Lib.hid (by unfold maxLen; omega)
    have HBY : Hid ((0 + l.length) * 8 ≤ 140737488355328) := Lib.hid (by omega)
    have HBS : Hid (N + 1 ≤ W.drew.heap.size) := Lib.hid (by rw [HSZ.out]; exact Nat.le_refl _)
    clear hz hN hsz hc
    go_region_law (refine step_append_lies _ (by rfl) _ _ _ (by rfl) (N + 1) 3 i0 (.int .i64 0) 1 8 Tryz.underlying25 HI.out.1 HI.out.2.1 HI.out.2.2.1 HI.out.2.2.2 (by rfl) (by decide) _ _ _ (by rfl) HOW.out ⟨b, o, none⟩ l.length lc (ints l) (by rfl) HLL.out HWD.out HL1.out HNP.out HMX.out HBY.out HBS.out _ rfl ?_; intro g2 cap2 w1 hown1 hgrow1 hat1 hlt1; have hq := (hgrow1.block N (by rw [HSZ.out]; omega) (by simp [Value.ownBlock])).trans HZ2.out; obtain ⟨q0, f0⟩ := heapcell hq 0; obtain ⟨q1, f1⟩ := heapcell hq 1)
    all_goals
      have HOWN := Lib.hid hown1
      have HGR := Lib.hid hgrow1
      clear hown1 hgrow1 hat1
      go_wp2_with fail
      go_ret
      have hNw := HN.out
      have hg := HGR.out
      have hB1 : Below w.heap.size w w1 := ⟨hg.os.trans HB0.out.os, hg.tape.trans HB0.out.tape, hg.output.trans HB0.out.output, by have := hg.size; have := HSZ.out; omega, fun b hb => (hg.block b (by have := HSZ.out; omega) (by simp [Value.ownBlock])).trans (HB0.out.block b hb)⟩
      have how := HOWN.out
      simp only [Nat.zero_add, List.nil_append] at how
      have hp : PathAt w1 l (.slice (some ⟨g2, 0, none⟩) l.length cap2) := ⟨_, _, rfl, fun _ => ⟨g2, 0, rfl, fun i hi => by
        have := how.cells (g := g2) rfl i (.int .i64 l[i]) (by simp [ints, hi])
        rw [show (⟨g2, 0, none⟩ : Addr).add i = ⟨g2, i, none⟩ from addr_add0 g2 i] at this
        rw [Nat.zero_add]; exact this⟩⟩
      first
      | exact at_done hB1 hp
      | exact at_done2 hB1 hp
      | exact at_done hB1.drew hp
def WrapE (w : World) (ty : TypeId) (u : Value) (f : ByteArray) (l : List Int) (e : Ending) (w' : World) : Prop := ∃ hb pb, e = .returned (.tuple #[.pointer (some ⟨hb, 0, none⟩), .nilIface]) ∧ HdAt w' hb 159 (.pointer (some ⟨pb, 0, none⟩)) ∧ PlacedAt w' pb ty u f l ∧ w.heap.size ≤ hb ∧ Below w.heap.size w w'
set_option maxHeartbeats 2000000 in
theorem wrap_any (w : World) (hb : Nat) (ty : TypeId) (u : Value) (f : ByteArray) (l : List Int) (v : Value) (hh : HdAt w hb ty u) (h : PlaceAt w f l v) (hk : PlaceOk f l) : Calls Tryz.prog 7 #[.pointer (some ⟨hb, 0, none⟩), v] w (WrapE w ty u f l) := by
  have g := h
  obtain ⟨_, _, pv, rfl, la, lc, rfl, _⟩ := g
  have hb0 := alloc_below w (.cells #[.string f, .slice la l.length lc] 27)
  have hz := heap_alloc_new w (.cells #[.string f, .slice la l.length lc] 27)
  have HB0 := Lib.hid hb0
  have HZ := Lib.hid hz
  have HH := Lib.hid (heap_keep hh hb0)
  have HP := Lib.hid (h.below hb0)
  have HK := Lib.hid hk
  clear hb0 hz hh h
  go_enter Tryz.func7, Tryz.ntmps7
  go_wp2_with fail
  generalize (w.alloc (.cells #[.string f, .slice la l.length lc] 27)) = W at HB0 HZ HH HP ⊢
  obtain ⟨N, hN⟩ : ∃ N, N = w.heap.size := ⟨_, rfl⟩
  simp only [← hN]
  have hz := HZ.out
  rw [← hN] at hz
  have z0 : W.cell? ⟨N, 0, none⟩ = some (.string f) := (heapcell hz 0).1
  have z1 : W.cell? ⟨N, 1, none⟩ = some (.slice la l.length lc) := (heapcell hz 1).1
  have HZ2 := Lib.hid hz
  have HN := Lib.hid hN
  clear hz hN
  refine (holds_any W hb ty u HH.out).mono ?_
  rintro e w1 ⟨rfl, hw1⟩
  subst hw1
  go_wp2_with fail
  refine (splace _ f l _ HP.out HK.out).mono ?_
  rintro e w1 ⟨rfl, hb1⟩
  have HB1 := Lib.hid (HB0.out.trans (hb1.mono HB0.out.size))
  have hz := heap_keep HZ2.out hb1
  have z0 : w1.cell? ⟨N, 0, none⟩ = some (.string f) := (heapcell hz 0).1
  have z1 : w1.cell? ⟨N, 1, none⟩ = some (.slice la l.length lc) := (heapcell hz 1).1
  have HH1 := Lib.hid (heap_keep HH.out hb1)
  have x0 : w1.cell? ⟨hb, 0, none⟩ = some (.iface ty u) := (heapcell HH1.out 0).1
  have HP1 := Lib.hid (HP.out.below hb1)
  clear hz hb1
  go_wp2_with fail
  go_still_tail 5, (by kernel_rfl)
  go_wp2_with fail
  have hpd : PlaceAt w1.drew f l (.agg #[.string f, .slice la l.length lc]) := HP1.out
  refine (at_any w1.drew ty u f l _ hpd HK.out.2.1).mono ?_
  rintro e w2 ⟨pb, rfl, hp, hpl, hb2⟩
  have HB2 := Lib.hid (HB1.out.drew.trans (hb2.mono HB1.out.drew.size))
  have HP2 := Lib.hid hp
  clear hpd hp hb2
  go_wp2_with fail
  refine (of_any _ _ _).mono ?_
  rintro e w3 ⟨rfl, rfl⟩
  go_wp2_with fail
  go_ret2
  exact ⟨_, pb, rfl, heap_alloc_new _ _, HP2.out.below (alloc_below _ _), HB2.out.size, below_allocA HB2.out _⟩
end

section
open Go.RowKit
set_option maxRecDepth 100000
/-- A base's four cells. -/
def BaseAt (w : World) (nb : Nat) (k : ByteArray) (n : Int) (s : ByteArray) (kv : Value) : Prop := w.cell? ⟨nb, 0, none⟩ = some (.string k) ∧ w.cell? ⟨nb, 1, none⟩ = some (.int .i64 n) ∧ w.cell? ⟨nb, 2, none⟩ = some (.string s) ∧ w.cell? ⟨nb, 3, none⟩ = some kv
theorem base_below {w w' : World} {nb : Nat} {k s : ByteArray} {n : Int} {kv : Value} (h : BaseAt w nb k n s kv) (hb : Below w.heap.size w w') : BaseAt w' nb k n s kv := by
  obtain ⟨h0, h1, h2, h3⟩ := h
  exact ⟨cell_stepA h0 hb, cell_stepA h1 hb, cell_stepA h2 hb, cell_stepA h3 hb⟩
theorem base_keep {w w' : World} {nb : Nat} {k s : ByteArray} {n : Int} {kv : Value} (h : BaseAt w nb k n s kv) (hk : w'.heap[nb]? = w.heap[nb]?) : BaseAt w' nb k n s kv := by
  have e : ∀ i, w'.cell? ⟨nb, i, none⟩ = w.cell? ⟨nb, i, none⟩ := fun i => World.cell?_of_block (w := w) (a := ⟨nb, i, none⟩) hk
  obtain ⟨h0, h1, h2, h3⟩ := h
  exact ⟨(e 0).trans h0, (e 1).trans h1, (e 2).trans h2, (e 3).trans h3⟩
theorem kind_m (w : World) (nb : Nat) (k s : ByteArray) (n : Int) (kv : Value) (h : BaseAt w nb k n s kv) : Calls Tryz.prog 114 #[.pointer (some ⟨nb, 0, none⟩)] w fun e w' => e = .returned (.string k) ∧ w' = w := by
  obtain ⟨c0, c1, c2, c3⟩ := h
  go_enter Tryz.func114, Tryz.ntmps114
  go_wp2_with fail
  go_ret
  exact ⟨rfl, rfl⟩
theorem num_m (w : World) (nb : Nat) (k s : ByteArray) (n : Int) (kv : Value) (h : BaseAt w nb k n s kv) : Calls Tryz.prog 116 #[.pointer (some ⟨nb, 0, none⟩)] w fun e w' => e = .returned (.int .i64 n) ∧ w' = w := by
  obtain ⟨c0, c1, c2, c3⟩ := h
  go_enter Tryz.func116, Tryz.ntmps116
  go_wp2_with fail
  go_ret
  exact ⟨rfl, rfl⟩
theorem text_m (w : World) (nb : Nat) (k s : ByteArray) (n : Int) (kv : Value) (h : BaseAt w nb k n s kv) : Calls Tryz.prog 117 #[.pointer (some ⟨nb, 0, none⟩)] w fun e w' => e = .returned (.string s) ∧ w' = w := by
  obtain ⟨c0, c1, c2, c3⟩ := h
  go_enter Tryz.func117, Tryz.ntmps117
  go_wp2_with fail
  go_ret
  exact ⟨rfl, rfl⟩
theorem len_m (w : World) (nb : Nat) (k s : ByteArray) (n : Int) (la : Option Addr) (m lc : Nat) (h : BaseAt w nb k n s (.slice la m lc)) : Calls Tryz.prog 115 #[.pointer (some ⟨nb, 0, none⟩)] w fun e w' => e = .returned (.int .i64 m) ∧ w' = w := by
  obtain ⟨c0, c1, c2, c3⟩ := h
  go_enter Tryz.func115, Tryz.ntmps115
  go_wp2_with fail
  go_ret
  exact ⟨rfl, rfl⟩
theorem kid_m (w : World) (nb : Nat) (k s : ByteArray) (n : Int) (kb kc i m : Nat) (hi : i < m) (x : Value) (h : BaseAt w nb k n s (.slice (some ⟨kb, 0, none⟩) m kc)) (hx : w.cell? ⟨kb, i, none⟩ = some x) : Calls Tryz.prog 113 #[.pointer (some ⟨nb, 0, none⟩), .int .i64 i] w fun e w' => e = .returned x ∧ w' = w := by
  obtain ⟨c0, c1, c2, c3⟩ := h
  have hiI : (i : Int) < (m : Int) := by omega
  go_enter Tryz.func113, Tryz.ntmps113
  go_wp2_with fail
  go_ret
  exact ⟨rfl, rfl⟩
/-- What a node's methods are. -/
structure MetAt (W : World) (t : TypeId) (v : Value) (nb : Nat) : Prop where
  text : (method 349 t v "Text").run Tryz.prog W = .ok (117, .pointer (some ⟨nb, 0, none⟩)) W
  kind : (method 349 t v "Kind").run Tryz.prog W = .ok (114, .pointer (some ⟨nb, 0, none⟩)) W
  num : (method 349 t v "Num").run Tryz.prog W = .ok (116, .pointer (some ⟨nb, 0, none⟩)) W
  len : (method 349 t v "Len").run Tryz.prog W = .ok (115, .pointer (some ⟨nb, 0, none⟩)) W
  kid : (method 349 t v "Kid").run Tryz.prog W = .ok (113, .pointer (some ⟨nb, 0, none⟩)) W
theorem met_Text94 (a : Addr) (w : World) : (method 349 94 (.pointer (some a)) "Text").run Tryz.prog w = .ok (117, .pointer (some a)) w := by kernel_rfl
theorem met_Kind94 (a : Addr) (w : World) : (method 349 94 (.pointer (some a)) "Kind").run Tryz.prog w = .ok (114, .pointer (some a)) w := by kernel_rfl
theorem met_Num94 (a : Addr) (w : World) : (method 349 94 (.pointer (some a)) "Num").run Tryz.prog w = .ok (116, .pointer (some a)) w := by kernel_rfl
theorem met_Len94 (a : Addr) (w : World) : (method 349 94 (.pointer (some a)) "Len").run Tryz.prog w = .ok (115, .pointer (some a)) w := by kernel_rfl
theorem met_Kid94 (a : Addr) (w : World) : (method 349 94 (.pointer (some a)) "Kid").run Tryz.prog w = .ok (113, .pointer (some a)) w := by kernel_rfl
theorem met94 (w : World) (nb : Nat) : MetAt w 94 (.pointer (some ⟨nb, 0, none⟩)) nb := ⟨met_Text94 _ _, met_Kind94 _ _, met_Num94 _ _, met_Len94 _ _, met_Kid94 _ _⟩
theorem met_Text99 (a : Addr) (w : World) : (method 349 99 (.pointer (some a)) "Text").run Tryz.prog w = .ok (117, .pointer (some a)) w := by kernel_rfl
theorem met_Kind99 (a : Addr) (w : World) : (method 349 99 (.pointer (some a)) "Kind").run Tryz.prog w = .ok (114, .pointer (some a)) w := by kernel_rfl
theorem met_Num99 (a : Addr) (w : World) : (method 349 99 (.pointer (some a)) "Num").run Tryz.prog w = .ok (116, .pointer (some a)) w := by kernel_rfl
theorem met_Len99 (a : Addr) (w : World) : (method 349 99 (.pointer (some a)) "Len").run Tryz.prog w = .ok (115, .pointer (some a)) w := by kernel_rfl
theorem met_Kid99 (a : Addr) (w : World) : (method 349 99 (.pointer (some a)) "Kid").run Tryz.prog w = .ok (113, .pointer (some a)) w := by kernel_rfl
theorem met99 (w : World) (nb : Nat) : MetAt w 99 (.pointer (some ⟨nb, 0, none⟩)) nb := ⟨met_Text99 _ _, met_Kind99 _ _, met_Num99 _ _, met_Len99 _ _, met_Kid99 _ _⟩
theorem met_Text105 (a : Addr) (w : World) : (method 349 105 (.pointer (some a)) "Text").run Tryz.prog w = .ok (117, .pointer (some a)) w := by kernel_rfl
theorem met_Kind105 (a : Addr) (w : World) : (method 349 105 (.pointer (some a)) "Kind").run Tryz.prog w = .ok (114, .pointer (some a)) w := by kernel_rfl
theorem met_Num105 (a : Addr) (w : World) : (method 349 105 (.pointer (some a)) "Num").run Tryz.prog w = .ok (116, .pointer (some a)) w := by kernel_rfl
theorem met_Len105 (a : Addr) (w : World) : (method 349 105 (.pointer (some a)) "Len").run Tryz.prog w = .ok (115, .pointer (some a)) w := by kernel_rfl
theorem met_Kid105 (a : Addr) (w : World) : (method 349 105 (.pointer (some a)) "Kid").run Tryz.prog w = .ok (113, .pointer (some a)) w := by kernel_rfl
theorem met105 (w : World) (nb : Nat) : MetAt w 105 (.pointer (some ⟨nb, 0, none⟩)) nb := ⟨met_Text105 _ _, met_Kind105 _ _, met_Num105 _ _, met_Len105 _ _, met_Kid105 _ _⟩
theorem pl_Text (f pv : Value) : Eng.methodA Tryz.prog [(0, .blk 163 [.iface 99 (.ptr 1 0), .raw f, .raw pv] none)] 349 159 (.ptr 0 0) "Text" = some (117, .ptr 1 0) := by kernel_rfl
theorem pl_Kind (f pv : Value) : Eng.methodA Tryz.prog [(0, .blk 163 [.iface 99 (.ptr 1 0), .raw f, .raw pv] none)] 349 159 (.ptr 0 0) "Kind" = some (114, .ptr 1 0) := by kernel_rfl
theorem pl_Num (f pv : Value) : Eng.methodA Tryz.prog [(0, .blk 163 [.iface 99 (.ptr 1 0), .raw f, .raw pv] none)] 349 159 (.ptr 0 0) "Num" = some (116, .ptr 1 0) := by kernel_rfl
theorem pl_Len (f pv : Value) : Eng.methodA Tryz.prog [(0, .blk 163 [.iface 99 (.ptr 1 0), .raw f, .raw pv] none)] 349 159 (.ptr 0 0) "Len" = some (115, .ptr 1 0) := by kernel_rfl
theorem pl_Kid (f pv : Value) : Eng.methodA Tryz.prog [(0, .blk 163 [.iface 99 (.ptr 1 0), .raw f, .raw pv] none)] 349 159 (.ptr 0 0) "Kid" = some (113, .ptr 1 0) := by kernel_rfl
theorem placed_hi (w : World) (pb nb : Nat) (f pv : Value) (h : w.heap[pb]? = some (.cells #[.iface 99 (.pointer (some ⟨nb, 0, none⟩)), f, pv] 163 (0, 0))) :
    Eng.HI 0 w ⟨fun n => if n = 0 then pb else nb, fun _ => 0⟩ [(0, .blk 163 [.iface 99 (.ptr 1 0), .raw f, .raw pv] none)] 2 w := by
  have hk : ∀ n o, Eng.look [(0, Eng.AObj.blk 163 [.iface 99 (.ptr 1 0), .raw f, .raw pv] none)] n = some o → n = 0 ∧ o = .blk 163 [.iface 99 (.ptr 1 0), .raw f, .raw pv] none := fun n o hl => by
    cases n with
    | zero => simp [Eng.look] at hl; exact ⟨rfl, hl.symm⟩
    | succ n => exact absurd (show (none : Option Eng.AObj) = some o from hl) (by simp)
  refine ⟨Below.refl _ _, Nat.zero_le _, fun n o hl => ?_, fun n m o o' hl hl' _ => ?_⟩
  · obtain ⟨rfl, rfl⟩ := hk n o hl
    exact ⟨by omega, Nat.zero_le _, rfl, h⟩
  · rw [(hk n o hl).1, (hk m o' hl').1]
theorem met159 (w : World) (pb nb : Nat) (f pv : Value) (h : w.heap[pb]? = some (.cells #[.iface 99 (.pointer (some ⟨nb, 0, none⟩)), f, pv] 163 (0, 0))) : MetAt w 159 (.pointer (some ⟨pb, 0, none⟩)) nb :=
  have H := placed_hi w pb nb f pv h
  ⟨Eng.methodA_ok H 349 159 (.ptr 0 0) _ _ _ (pl_Text f pv), Eng.methodA_ok H 349 159 (.ptr 0 0) _ _ _ (pl_Kind f pv), Eng.methodA_ok H 349 159 (.ptr 0 0) _ _ _ (pl_Num f pv), Eng.methodA_ok H 349 159 (.ptr 0 0) _ _ _ (pl_Len f pv), Eng.methodA_ok H 349 159 (.ptr 0 0) _ _ _ (pl_Kid f pv)⟩
end

section
open Go.RowKit
set_option maxRecDepth 100000
set_option maxHeartbeats 2000000 in
theorem make_frame_ok (w : World) (hs : List Nat) (vs : List Value) (v : Value) (hv : HsN w hs vs v) (h1 : 1 ≤ hs.length) (h65 : hs.length ≤ 65) :
    Calls Tryz.prog 5 #[.agg #[.string ⟨#[98, 97, 115, 101, 46, 102, 114, 97, 109, 101]⟩, .int .i64 0, .string ⟨#[]⟩, .slice none 0 0], v] w fun e w' => ∃ hb nb kv, e = .returned (.tuple #[.pointer (some ⟨hb, 0, none⟩), .nilIface]) ∧ HdAt w' hb 99 (.pointer (some ⟨nb, 0, none⟩)) ∧
      w'.heap[nb]? = some (.cells #[.string ⟨#[98, 97, 115, 101, 46, 102, 114, 97, 109, 101]⟩, .int .i64 0, .string ⟨#[]⟩, kv] 103 (0, 0)) ∧ w'.ownsRow w.heap.size 56 1 kv hs.length vs ∧ w.heap.size ≤ hb ∧ Below w.heap.size w w' := by
  obtain ⟨la, lc, rfl, _, _⟩ := id hv.arg
  have hb0 := alloc_below w (.cells #[.string ⟨#[98, 97, 115, 101, 46, 102, 114, 97, 109, 101]⟩, .int .i64 0, .string ⟨#[]⟩, .slice none 0 0] 24)
  have ht0 := heap_alloc_new w (.cells #[.string ⟨#[98, 97, 115, 101, 46, 102, 114, 97, 109, 101]⟩, .int .i64 0, .string ⟨#[]⟩, .slice none 0 0] 24)
  have HC := Lib.hid (show cntE hs.length = 0 from if_pos ⟨h1, h65⟩)
  have HV := Lib.hid hv
  clear hv
  go_enter Tryz.func5, Tryz.ntmps5
  go_wp2_with fail
  generalize w.alloc (.cells #[.string ⟨#[98, 97, 115, 101, 46, 102, 114, 97, 109, 101]⟩, .int .i64 0, .string ⟨#[]⟩, .slice none 0 0] 24) = w0 at hb0 ht0 ⊢
  have HB0 := Lib.hid hb0
  have HT0 := Lib.hid ht0
  clear hb0 ht0
  refine (fits_frame w0 hs _ (HV.out.arg.below HB0.out) (by omega)).mono ?_
  rintro e w1 ⟨rfl, hb1⟩
  rw [HC.out]
  have HB1 := Lib.hid (HB0.out.trans (hb1.mono HB0.out.size))
  have HT1 := Lib.hid (heap_keep HT0.out hb1)
  obtain ⟨t0, _⟩ := heapcell HT1.out 0
  obtain ⟨t1, _⟩ := heapcell HT1.out 1
  obtain ⟨t2, _⟩ := heapcell HT1.out 2
  obtain ⟨t3, _⟩ := heapcell HT1.out 3
  clear hb1
  go_wp2_with fail
  refine (lay_any w1 ⟨#[98, 97, 115, 101, 46, 102, 114, 97, 109, 101]⟩ ⟨#[]⟩ hs vs _ (HV.out.below HB1.out) (by omega)).mono ?_
  rintro e w2 ⟨kv, rfl, ho, hb2⟩
  obtain ⟨ka, kc, rfl⟩ := own_slice ho
  have HO := Lib.hid ho
  have HB2 := Lib.hid (HB1.out.trans (hb2.mono HB1.out.size))
  have HT2 := Lib.hid (heap_keep HT1.out hb2)
  have HS1 := Lib.hid HB1.out.size
  obtain ⟨t0, _⟩ := heapcell HT2.out 0
  have hTl : w.heap.size < w2.heap.size := (Array.getElem?_eq_some_iff.1 HT2.out).1
  clear ho hb2 t1 t2 t3
  go_wp2_with fail
  refine (of_any _ _ _).mono ?_
  rintro e w3 ⟨rfl, rfl⟩
  go_wp2_with fail
  go_ret2
  refine ⟨w2.heap.size + 1 + 1, w2.heap.size + 1, .slice ka hs.length kc, rfl, ?_, ?_, ?_, ?_, ?_⟩
  · have h := heap_alloc_new ((w2.alloc (.cells #[.string ⟨#[98, 97, 115, 101, 46, 102, 114, 97, 109, 101]⟩, .int .i64 0, .string ⟨#[]⟩, .slice ka hs.length kc] 91)).alloc (.cells #[.string ⟨#[98, 97, 115, 101, 46, 102, 114, 97, 109, 101]⟩, .int .i64 0, .string ⟨#[]⟩, .slice ka hs.length kc] 103)) (.cells #[.iface 99 (.pointer (some ⟨w2.heap.size + 1, 0, none⟩))] 121)
    simp only [World.size_alloc] at h
    exact h
  · have h := heap_alloc_new (w2.alloc (.cells #[.string ⟨#[98, 97, 115, 101, 46, 102, 114, 97, 109, 101]⟩, .int .i64 0, .string ⟨#[]⟩, .slice ka hs.length kc] 91)) (.cells #[.string ⟨#[98, 97, 115, 101, 46, 102, 114, 97, 109, 101]⟩, .int .i64 0, .string ⟨#[]⟩, .slice ka hs.length kc] 103)
    simp only [World.size_alloc] at h
    exact (Below.heap_alloc _ _ _ (by simp)).trans h
  · have ho : w2.ownsRow w.heap.size 56 1 (.slice ka hs.length kc) hs.length vs := ⟨HO.out.1, HO.out.2.imp id (fun ⟨g, cap, cur, e, hb, r⟩ => ⟨g, cap, cur, e, Nat.le_trans HS1.out hb, r⟩)⟩
    exact ((ho.alloc _).alloc _).alloc _
  · have := HB2.out.size; simp; omega
  · exact below_allocA (below_allocA (below_allocA HB2.out _) _) _
theorem hsN_nil (w : World) : HsN w [] [] (.slice none 0 0) := ⟨rfl, ⟨none, 0, rfl, by simp, by simp⟩, by simp⟩
end

section
open Go.RowKit
set_option maxRecDepth 100000
theorem RowsAt.any {w : World} {b : Nat} (h : RowsAt w b) (i : Nat) (hi : i < 7) : ∃ (rk : ByteArray) (mn mx : Int) (nb : Bool) (tt : Int) (a : Addr) (m : Nat), w.cell? ⟨b, i * 6, none⟩ = some (.string rk) ∧ w.cell? ⟨b, i * 6 + 1, none⟩ = some (.int .i64 mn) ∧ w.cell? ⟨b, i * 6 + 2, none⟩ = some (.int .i64 mx) ∧ w.cell? ⟨b, i * 6 + 3, none⟩ = some (.bool nb) ∧ w.cell? ⟨b, i * 6 + 4, none⟩ = some (.int .i64 tt) ∧ w.cell? ⟨b, i * 6 + 5, none⟩ = some (.slice (some a) m m) := by
  rcases (by omega : i = 0 ∨ i = 1 ∨ i = 2 ∨ i = 3 ∨ i = 4 ∨ i = 5 ∨ i = 6) with rfl | rfl | rfl | rfl | rfl | rfl | rfl
  · obtain ⟨a, h⟩ := h.r0; exact ⟨_, _, _, _, _, a, _, h⟩
  · obtain ⟨a, h⟩ := h.r1; exact ⟨_, _, _, _, _, a, _, h⟩
  · obtain ⟨a, h⟩ := h.r2; exact ⟨_, _, _, _, _, a, _, h⟩
  · obtain ⟨a, h⟩ := h.r3; exact ⟨_, _, _, _, _, a, _, h⟩
  · obtain ⟨a, h⟩ := h.r4; exact ⟨_, _, _, _, _, a, _, h⟩
  · obtain ⟨a, h⟩ := h.r5; exact ⟨_, _, _, _, _, a, _, h⟩
  · obtain ⟨a, h⟩ := h.r6; exact ⟨_, _, _, _, _, a, _, h⟩
def TreeT (w : World) (T : Nat) (k : ByteArray) (n : Int) (s : ByteArray) (kv : Value) : Prop := w.heap[T]? = some (.cells #[.string k, .int .i64 n, .string s, kv] 24 (0, 0))
def CodeE (w : World) (e : Ending) (w' : World) : Prop := ∃ c, e = .returned (.int .i64 c) ∧ Below w.heap.size w w'
set_option maxHeartbeats 4000000 in
theorem fits_any (w : World) (k : ByteArray) (n : Int) (s : ByteArray) (la : Option Addr) (ln lc : Nat) (hs : s.size ≤ 140737488355328) :
    Calls Tryz.prog 24 #[.agg #[.string k, .int .i64 n, .string s, .slice la ln lc], .slice none 0 0] w (CodeE w) := by
  have HS := Lib.hid hs
  clear hs
  go_enter Tryz.func24, Tryz.ntmps24
  go_wp2_with fail
  have hb0 := alloc_below w (.cells #[.string k, .int .i64 n, .string s, .slice la ln lc] 24)
  have ht0 := heap_alloc_new w (.cells #[.string k, .int .i64 n, .string s, .slice la ln lc] 24)
  generalize (w.alloc (.cells #[.string k, .int .i64 n, .string s, .slice la ln lc] 24)) = w0 at hb0 ht0 ⊢
  obtain ⟨T, hT⟩ : ∃ T, T = w.heap.size := ⟨_, rfl⟩
  have HN := Lib.hid hT
  rw [← hT] at ht0 ⊢
  clear hT
  refine (rows_any w0).mono ?_
  rintro e w1 ⟨rb, rfl, hrows, hb1⟩
  have HB1 := Lib.hid (hb0.trans (hb1.mono hb0.size))
  have HR1 := Lib.hid hrows
  have HT1 : Hid (TreeT w1 T k n s (.slice la ln lc)) := Lib.hid (heap_keep ht0 hb1)
  clear hb0 ht0 hb1 hrows
  go_wp2_with fail
  go_loopw [11] (fun iv wr => ∃ (i : Nat), i ≤ 7 ∧ iv = .int .i64 i ∧ Hid (RowsAt wr rb) ∧ Hid (TreeT wr T k n s (.slice la ln lc)) ∧ Hid (Below w.heap.size w wr))
    (fun iv _ => 7 - (intOf iv).toNat)
  case atStart => exact ⟨0, by omega, rfl, HR1, HT1, HB1⟩
  case round =>
    obtain ⟨i, hi, rfl, HR, HTt, HB⟩ := hrel
    by_cases hlt : i < 7
    · have hltI : (i : Int) < 7 := by omega
      obtain ⟨y0, _⟩ := heapcell HTt.out 0
      have hTl : T < wr.heap.size := (Array.getElem?_eq_some_iff.1 HTt.out).1
      obtain ⟨rk, mn, mx, nb, tt, a, m, c0, c1, c2, c3, c4, c5⟩ := HR.out.any i hlt
      go_wp2_with fail
      · go_roundw
        case rel => exact ⟨i + 1, by omega, by go_num, Lib.hid (HR.out.below (alloc_below wr _)), Lib.hid (heap_keep HTt.out (alloc_below wr _)), Lib.hid (below_allocA HB.out _)⟩
        case measure => simp [intOf]; omega
      · have hb5 := alloc_below wr (.cells #[.string rk, .int .i64 mn, .int .i64 mx, .bool nb, .int .i64 tt, .slice (some a) m m] 151)
        have hd5 := heap_alloc_new wr (.cells #[.string rk, .int .i64 mn, .int .i64 mx, .bool nb, .int .i64 tt, .slice (some a) m m] 151)
        have ht5 : TreeT (wr.alloc (.cells #[.string rk, .int .i64 mn, .int .i64 mx, .bool nb, .int .i64 tt, .slice (some a) m m] 151)) T k n s (.slice la ln lc) := heap_keep HTt.out hb5
        generalize (wr.alloc (.cells #[.string rk, .int .i64 mn, .int .i64 mx, .bool nb, .int .i64 tt, .slice (some a) m m] 151)) = w5 at hb5 hd5 ht5 ⊢
        generalize wr.heap.size = D at hd5 ⊢
        have HB5 := Lib.hid (HB.out.trans (hb5.mono HB.out.size))
        have HD5 := Lib.hid hd5
        have HT5 := Lib.hid ht5
        clear hb5 hd5 ht5 c0 c1 c2 c3 c4 c5 HR HTt HB hTl y0
        go_loopw [22] (fun jv wq => jv = .int .i64 0 ∧ Hid (TreeT wq T k n s (.slice la ln lc)) ∧ Hid (wq.heap[D]? = some (.cells #[.string rk, .int .i64 mn, .int .i64 mx, .bool nb, .int .i64 tt, .slice (some a) m m] 151 (0, 0))) ∧ Hid (Below w.heap.size w wq)) (fun _ _ => 0)
        case atStart => exact ⟨rfl, HT5, HD5, HB5⟩
        case round =>
          obtain ⟨rfl, HT6, HD6, HB6⟩ := hrel
          obtain ⟨y1, _⟩ := heapcell HT6.out 1
          obtain ⟨y2, _⟩ := heapcell HT6.out 2
          obtain ⟨d1, _⟩ := heapcell HD6.out 1
          obtain ⟨d2, _⟩ := heapcell HD6.out 2
          obtain ⟨d3, _⟩ := heapcell HD6.out 3
          obtain ⟨d4, _⟩ := heapcell HD6.out 4
          go_wp2_with (go_at_call 48; refine (use_any _ s (by have := HS.out; omega)).mono ?_; rintro e w2 ⟨b, rfl, _, hbb⟩; have HB7 := Lib.hid (HB6.out.trans (hbb.mono HB6.out.size)); clear hbb)
          all_goals
            go_ret
            first
            | exact ⟨_, rfl, HB6.out⟩
            | exact ⟨_, rfl, HB7.out⟩
    · obtain rfl : i = 7 := by omega
      go_wp2_with fail
      go_ret
      exact ⟨_, rfl, HB.out⟩
end

section
open Go.RowKit
set_option maxRecDepth 100000
set_option maxHeartbeats 4000000 in
theorem lay_none (w : World) (k : ByteArray) (n : Int) (s : ByteArray) (kv : Value) :
    Calls Tryz.prog 26 #[.agg #[.string k, .int .i64 n, .string s, kv], .slice none 0 0] w (RetB w (.agg #[.string k, .int .i64 n, .string s, .slice none 0 0])) := by
  go_enter Tryz.func26, Tryz.ntmps26
  go_wp2_with fail
  have hst : Hid (((((w.alloc (.cells #[.string k, .int .i64 n, .string s, kv] 24)).alloc (.cells #[.string ⟨#[]⟩, .int .i64 0, .string ⟨#[]⟩, .slice none 0 0] 91)).alloc (.cells #[.string k, .int .i64 n, .string s, .slice none 0 0] 91)).heap[w.heap.size + 1 + 1]? = some (.cells #[.string k, .int .i64 n, .string s, .slice none 0 0] 91 (0, 0))) ∧
      ((((w.alloc (.cells #[.string k, .int .i64 n, .string s, kv] 24)).alloc (.cells #[.string ⟨#[]⟩, .int .i64 0, .string ⟨#[]⟩, .slice none 0 0] 91)).alloc (.cells #[.string k, .int .i64 n, .string s, .slice none 0 0] 91)).heap[w.heap.size + 1]? = some (.cells #[.string ⟨#[]⟩, .int .i64 0, .string ⟨#[]⟩, .slice none 0 0] 91 (0, 0))) ∧
      Below w.heap.size w (((w.alloc (.cells #[.string k, .int .i64 n, .string s, kv] 24)).alloc (.cells #[.string ⟨#[]⟩, .int .i64 0, .string ⟨#[]⟩, .slice none 0 0] 91)).alloc (.cells #[.string k, .int .i64 n, .string s, .slice none 0 0] 91))) := Lib.hid (by
    have h1 := heap_alloc_new (w.alloc (.cells #[.string k, .int .i64 n, .string s, kv] 24)) (.cells #[.string ⟨#[]⟩, .int .i64 0, .string ⟨#[]⟩, .slice none 0 0] 91)
    have h2 := heap_alloc_new ((w.alloc (.cells #[.string k, .int .i64 n, .string s, kv] 24)).alloc (.cells #[.string ⟨#[]⟩, .int .i64 0, .string ⟨#[]⟩, .slice none 0 0] 91)) (.cells #[.string k, .int .i64 n, .string s, .slice none 0 0] 91)
    simp only [World.size_alloc] at h1 h2
    exact ⟨h2, (Below.heap_alloc _ _ _ (by simp)).trans h1, ((alloc_below w _).alloc (by simp) _).alloc (by simp; omega) _⟩)
  generalize (((w.alloc (.cells #[.string k, .int .i64 n, .string s, kv] 24)).alloc (.cells #[.string ⟨#[]⟩, .int .i64 0, .string ⟨#[]⟩, .slice none 0 0] 91)).alloc (.cells #[.string k, .int .i64 n, .string s, .slice none 0 0] 91)) = w0 at hst ⊢
  obtain ⟨D, hD⟩ : ∃ D, D = w.heap.size + 1 + 1 := ⟨_, rfl⟩
  obtain ⟨R, hR⟩ : ∃ R, R = w.heap.size + 1 := ⟨_, rfl⟩
  have HRD : Hid (w.heap.size ≤ R ∧ D ≠ R) := Lib.hid (by omega)
  rw [← hD, ← hR] at hst ⊢
  clear hD hR
  go_loopw [17] (fun jv wr => jv = .int .i64 0 ∧ Hid (wr.heap[D]? = some (.cells #[.string k, .int .i64 n, .string s, .slice none 0 0] 91 (0, 0)) ∧ wr.heap[R]? = some (.cells #[.string ⟨#[]⟩, .int .i64 0, .string ⟨#[]⟩, .slice none 0 0] 91 (0, 0)) ∧ Below w.heap.size w wr)) (fun _ _ => 0)
  case atStart => exact ⟨rfl, hst⟩
  case round =>
    obtain ⟨rfl, HL⟩ := hrel
    obtain ⟨d0, _⟩ := heapcell HL.out.1 0
    obtain ⟨d1, _⟩ := heapcell HL.out.1 1
    obtain ⟨d2, _⟩ := heapcell HL.out.1 2
    obtain ⟨d3, _⟩ := heapcell HL.out.1 3
    obtain ⟨r0, q0⟩ := heapcell HL.out.2.1 0
    obtain ⟨r1, q1⟩ := heapcell HL.out.2.1 1
    obtain ⟨r2, q2⟩ := heapcell HL.out.2.1 2
    obtain ⟨r3, q3⟩ := heapcell HL.out.2.1 3
    go_wp2_with fail
    have hf : ((((wr.setCell ⟨R, 0, none⟩ (.string k)).setCell ⟨R, 1, none⟩ (.int .i64 n)).setCell ⟨R, 2, none⟩ (.string s)).setCell ⟨R, 3, none⟩ (.slice none 0 0)).heap[R]? = some (.cells #[.string k, .int .i64 n, .string s, .slice none 0 0] 91 (0, 0)) :=
      heap_setA (heap_setA (heap_setA (heap_setA HL.out.2.1 _) _) _) _
    have hb : Below w.heap.size w ((((wr.setCell ⟨R, 0, none⟩ (.string k)).setCell ⟨R, 1, none⟩ (.int .i64 n)).setCell ⟨R, 2, none⟩ (.string s)).setCell ⟨R, 3, none⟩ (.slice none 0 0)) :=
      (((HL.out.2.2.setCell HRD.out.1 _).setCell HRD.out.1 _).setCell HRD.out.1 _).setCell HRD.out.1 _
    generalize ((((wr.setCell ⟨R, 0, none⟩ (.string k)).setCell ⟨R, 1, none⟩ (.int .i64 n)).setCell ⟨R, 2, none⟩ (.string s)).setCell ⟨R, 3, none⟩ (.slice none 0 0)) = W at hf hb ⊢
    obtain ⟨p0, _⟩ := heapcell hf 0
    obtain ⟨p1, _⟩ := heapcell hf 1
    obtain ⟨p2, _⟩ := heapcell hf 2
    obtain ⟨p3, _⟩ := heapcell hf 3
    exact bodyPost_ret (v := .agg #[.string k, .int .i64 n, .string s, .slice none 0 0]) (by simp [results, Tryz.results26, go_sem, p0, p1, p2, p3]) rfl ⟨rfl, hb⟩
/-- A worth: one of four kinds. -/
def WorthV (v : Value) : Prop := (∃ b, v = .iface 155 (.bool b)) ∨ (∃ n, v = .iface 82 (.int .i64 n)) ∨ (∃ s, v = .iface 156 (.string s)) ∨ v = .iface 157 (.agg #[])
theorem worth_any (w : World) (k : ByteArray) (n : Int) (s : ByteArray) (la : Option Addr) (ln lc : Nat) :
    Calls Tryz.prog 28 #[.agg #[.string k, .int .i64 n, .string s, .slice la ln lc]] w fun e w' => ∃ v, e = .returned v ∧ WorthV v ∧ Below w.heap.size w w' := by
  go_enter Tryz.func28, Tryz.ntmps28
  go_wp2_with fail
  all_goals
    go_ret
    first
    | exact ⟨_, rfl, .inl ⟨_, rfl⟩, alloc_below w _⟩
    | exact ⟨_, rfl, .inr (.inl ⟨_, rfl⟩), alloc_below w _⟩
    | exact ⟨_, rfl, .inr (.inr (.inl ⟨_, rfl⟩)), alloc_below w _⟩
    | exact ⟨_, rfl, .inr (.inr (.inr rfl)), alloc_below w _⟩
end

section
open Go.RowKit
set_option maxRecDepth 100000
theorem sort_truth (w : World) (b : Bool) : Calls Tryz.prog 122 #[.bool b] w fun e w' => ∃ s, e = .returned (.string s) ∧ Below w.heap.size w w' := by
  go_enter Tryz.func122, Tryz.ntmps122
  go_wp2_with fail
  go_ret
  exact ⟨_, rfl, Below.refl _ _⟩
theorem sort_int (w : World) (n : Int) : Calls Tryz.prog 111 #[.int .i64 n] w fun e w' => ∃ s, e = .returned (.string s) ∧ Below w.heap.size w w' := by
  go_enter Tryz.func111, Tryz.ntmps111
  go_wp2_with fail
  go_ret
  exact ⟨_, rfl, Below.refl _ _⟩
theorem sort_text (w : World) (t : ByteArray) : Calls Tryz.prog 123 #[.string t] w fun e w' => ∃ s, e = .returned (.string s) ∧ Below w.heap.size w w' := by
  go_enter Tryz.func123, Tryz.ntmps123
  go_wp2_with fail
  go_ret
  exact ⟨_, rfl, Below.refl _ _⟩
theorem sort_unit (w : World) : Calls Tryz.prog 124 #[.agg #[]] w fun e w' => ∃ s, e = .returned (.string s) ∧ Below w.heap.size w w' := by
  go_enter Tryz.func124, Tryz.ntmps124
  go_wp2_with fail
  go_ret
  exact ⟨_, rfl, alloc_below w _⟩
theorem met_Sort155 (v : Value) (w : World) : (method 349 155 v "Sort").run Tryz.prog w = .ok (122, v) w := by kernel_rfl
theorem met_Sort82 (v : Value) (w : World) : (method 349 82 v "Sort").run Tryz.prog w = .ok (111, v) w := by kernel_rfl
theorem met_Sort156 (v : Value) (w : World) : (method 349 156 v "Sort").run Tryz.prog w = .ok (123, v) w := by kernel_rfl
theorem met_Sort157 (v : Value) (w : World) : (method 349 157 v "Sort").run Tryz.prog w = .ok (124, v) w := by kernel_rfl
/-- A node without kids. -/
def LeafAt (w : World) (ty : TypeId) (nb : Nat) (k : ByteArray) (n : Int) (s : ByteArray) : Prop := (ty = 94 ∨ ty = 99 ∨ ty = 105) ∧ ∃ (cs : Array Value) (t : TypeId), w.heap[nb]? = some (.cells cs t (0, 0)) ∧ cs[0]? = some (.string k) ∧ cs[1]? = some (.int .i64 n) ∧ cs[2]? = some (.string s) ∧ cs[3]? = some (.slice none 0 0)
theorem LeafAt.below {w w' : World} {ty : TypeId} {nb : Nat} {k : ByteArray} {n : Int} {s : ByteArray} (h : LeafAt w ty nb k n s) (hb : Below w.heap.size w w') : LeafAt w' ty nb k n s := by
  obtain ⟨h0, cs, t, h1, h2⟩ := h
  exact ⟨h0, cs, t, heap_keep h1 hb, h2⟩
def LeafE (w : World) (k : ByteArray) (n : Int) (s : ByteArray) (e : Ending) (w' : World) : Prop :=
  (∃ t c, e = .returned (.tuple #[.pointer none, .iface t c]) ∧ Below w.heap.size w w') ∨
  (∃ hb nb ty, e = .returned (.tuple #[.pointer (some ⟨hb, 0, none⟩), .nilIface]) ∧ HdAt w' hb ty (.pointer (some ⟨nb, 0, none⟩)) ∧ LeafAt w' ty nb k n s ∧ w.heap.size ≤ hb ∧ Below w.heap.size w w')
theorem leaf_done {w w1 : World} {k s : ByteArray} {n : Int} {ty t : TypeId} {cs : Array Value} {N : Nat} (hN : w1.heap.size = N) (hty : ty = 94 ∨ ty = 99 ∨ ty = 105) (hb : Below w.heap.size w w1) (hc : cs[0]? = some (.string k) ∧ cs[1]? = some (.int .i64 n) ∧ cs[2]? = some (.string s) ∧ cs[3]? = some (.slice none 0 0)) :
    LeafE w k n s (.returned (.tuple #[.pointer (some ⟨N + 1, 0, none⟩), .nilIface])) ((w1.alloc (.cells cs t)).alloc (.cells #[.iface ty (.pointer (some ⟨N, 0, none⟩))] 121)) := by
  subst hN
  refine .inr ⟨_, w1.heap.size, ty, rfl, ?_, ⟨hty, cs, t, ?_, hc⟩, ?_, ?_⟩
  · have h := heap_alloc_new (w1.alloc (.cells cs t)) (.cells #[.iface ty (.pointer (some ⟨w1.heap.size, 0, none⟩))] 121)
    simp only [World.size_alloc] at h
    exact h
  · exact (Below.heap_alloc _ _ _ (by simp)).trans (heap_alloc_new w1 _)
  · have := hb.size; omega
  · exact below_allocA (below_allocA hb _) _
set_option maxHeartbeats 4000000 in
theorem make_leaf (w : World) (k : ByteArray) (n : Int) (s : ByteArray) (la : Option Addr) (ln lc : Nat) (hs : s.size ≤ 140737488355328) :
    Calls Tryz.prog 5 #[.agg #[.string k, .int .i64 n, .string s, .slice la ln lc], .slice none 0 0] w (LeafE w k n s) := by
  have hb0 := alloc_below w (.cells #[.string k, .int .i64 n, .string s, .slice la ln lc] 24)
  have ht0 := heap_alloc_new w (.cells #[.string k, .int .i64 n, .string s, .slice la ln lc] 24)
  have HS := Lib.hid hs
  clear hs
  go_enter Tryz.func5, Tryz.ntmps5
  go_wp2_with fail
  generalize w.alloc (.cells #[.string k, .int .i64 n, .string s, .slice la ln lc] 24) = w0 at hb0 ht0 ⊢
  obtain ⟨T, hT⟩ : ∃ T, T = w.heap.size := ⟨_, rfl⟩
  rw [← hT] at ht0 ⊢
  have HTN := Lib.hid hT
  have HB0 := Lib.hid hb0
  have HT0 := Lib.hid ht0
  clear hb0 ht0 hT
  refine (fits_any w0 k n s la ln lc HS.out).mono ?_
  rintro e w1 ⟨c, rfl, hb1⟩
  have HB1 := Lib.hid (HB0.out.trans (hb1.mono HB0.out.size))
  have HT1 := Lib.hid (heap_keep HT0.out hb1)
  obtain ⟨t0, _⟩ := heapcell HT1.out 0
  obtain ⟨t1, _⟩ := heapcell HT1.out 1
  obtain ⟨t2, _⟩ := heapcell HT1.out 2
  obtain ⟨t3, _⟩ := heapcell HT1.out 3
  clear hb1
  by_cases hc : c = 0
  · subst hc
    go_wp2_with fail
    refine (lay_none w1 k n s _).mono ?_
    rintro e w2 ⟨rfl, hb2⟩
    have HB2 := Lib.hid (HB1.out.trans (hb2.mono HB1.out.size))
    have HT2 := Lib.hid (heap_keep HT1.out hb2)
    clear hb2 t1 t2 t3
    obtain ⟨t0, _⟩ := heapcell HT2.out 0
    obtain ⟨t1, _⟩ := heapcell HT2.out 1
    obtain ⟨t2, _⟩ := heapcell HT2.out 2
    obtain ⟨t3, _⟩ := heapcell HT2.out 3
    have hTl : T < w2.heap.size := (Array.getElem?_eq_some_iff.1 HT2.out).1
    go_wp2_with (go_at_call 27; refine (of_any _ _ _).mono ?_; rintro e w3 ⟨rfl, rfl⟩)
    · go_ret2
      exact leaf_done (cs := #[.string k, .int .i64 n, .string s, .slice none 0 0]) (by simp) (.inl rfl) (below_allocA HB2.out _) ⟨rfl, rfl, rfl, rfl⟩
    · go_ret2
      exact leaf_done (cs := #[.string k, .int .i64 n, .string s, .slice none 0 0]) (by simp) (.inr (.inl rfl)) (below_allocA HB2.out _) ⟨rfl, rfl, rfl, rfl⟩
    · have hb3 := alloc_below w2 (.cells #[.string k, .int .i64 n, .string s, .slice none 0 0] 91)
      have hd3 := heap_alloc_new w2 (.cells #[.string k, .int .i64 n, .string s, .slice none 0 0] 91)
      generalize w2.alloc (.cells #[.string k, .int .i64 n, .string s, .slice none 0 0] 91) = w3 at hb3 hd3 ⊢
      have HB3 := Lib.hid (HB2.out.trans (hb3.mono HB2.out.size))
      obtain ⟨D, hD⟩ : ∃ D, D = w2.heap.size := ⟨_, rfl⟩
      rw [← hD] at hd3 ⊢
      have HD3 := Lib.hid hd3
      clear hb3 hd3 hD t0 t1 t2 t3
      refine (worth_any w3 k n s la ln lc).mono ?_
      rintro e w4 ⟨v, rfl, hv, hb4⟩
      have HB4 := Lib.hid (HB3.out.trans (hb4.mono HB3.out.size))
      have HD4 := Lib.hid (heap_keep HD3.out hb4)
      obtain ⟨d0, _⟩ := heapcell HD4.out 0
      obtain ⟨d1, _⟩ := heapcell HD4.out 1
      obtain ⟨d2, _⟩ := heapcell HD4.out 2
      obtain ⟨d3, _⟩ := heapcell HD4.out 3
      clear hb4
      rcases hv with ⟨b, rfl⟩ | ⟨m, rfl⟩ | ⟨x, rfl⟩ | rfl
      · have hm := met_Sort155 (.bool b) w4.drew
        go_wp2_with fail
        go_region_with (first | (go_at_call 122; refine (sort_truth _ b).mono ?_; rintro e w5 ⟨y, rfl, hb5⟩; have hd5 := heap_keep (show w4.drew.heap[D]? = _ from HD4.out) hb5; obtain ⟨e0, _⟩ := heapcell hd5 0; obtain ⟨e1, _⟩ := heapcell hd5 1; obtain ⟨e2, _⟩ := heapcell hd5 2; obtain ⟨e3, _⟩ := heapcell hd5 3) | (go_at_call 27; refine (of_any _ _ _).mono ?_; rintro e w6 ⟨rfl, rfl⟩))
        all_goals
          have HB5 := Lib.hid (HB4.out.drew.trans (hb5.mono HB4.out.drew.size))
          clear hb5 hd5
          go_wp2_with fail
          go_ret2
          exact leaf_done rfl (.inr (.inr rfl)) HB5.out ⟨rfl, rfl, rfl, rfl⟩
      · have hm := met_Sort82 (.int .i64 m) w4.drew
        go_wp2_with fail
        go_region_with (first | (go_at_call 111; refine (sort_int _ m).mono ?_; rintro e w5 ⟨y, rfl, hb5⟩; have hd5 := heap_keep (show w4.drew.heap[D]? = _ from HD4.out) hb5; obtain ⟨e0, _⟩ := heapcell hd5 0; obtain ⟨e1, _⟩ := heapcell hd5 1; obtain ⟨e2, _⟩ := heapcell hd5 2; obtain ⟨e3, _⟩ := heapcell hd5 3) | (go_at_call 27; refine (of_any _ _ _).mono ?_; rintro e w6 ⟨rfl, rfl⟩))
        all_goals
          have HB5 := Lib.hid (HB4.out.drew.trans (hb5.mono HB4.out.drew.size))
          clear hb5 hd5
          go_wp2_with fail
          go_ret2
          exact leaf_done rfl (.inr (.inr rfl)) HB5.out ⟨rfl, rfl, rfl, rfl⟩
      · have hm := met_Sort156 (.string x) w4.drew
        go_wp2_with fail
        go_region_with (first | (go_at_call 123; refine (sort_text _ x).mono ?_; rintro e w5 ⟨y, rfl, hb5⟩; have hd5 := heap_keep (show w4.drew.heap[D]? = _ from HD4.out) hb5; obtain ⟨e0, _⟩ := heapcell hd5 0; obtain ⟨e1, _⟩ := heapcell hd5 1; obtain ⟨e2, _⟩ := heapcell hd5 2; obtain ⟨e3, _⟩ := heapcell hd5 3) | (go_at_call 27; refine (of_any _ _ _).mono ?_; rintro e w6 ⟨rfl, rfl⟩))
        all_goals
          have HB5 := Lib.hid (HB4.out.drew.trans (hb5.mono HB4.out.drew.size))
          clear hb5 hd5
          go_wp2_with fail
          go_ret2
          exact leaf_done rfl (.inr (.inr rfl)) HB5.out ⟨rfl, rfl, rfl, rfl⟩
      · have hm := met_Sort157 (.agg #[]) w4.drew
        go_wp2_with fail
        go_region_with (first | (go_at_call 124; refine (sort_unit _).mono ?_; rintro e w5 ⟨y, rfl, hb5⟩; have hd5 := heap_keep (show w4.drew.heap[D]? = _ from HD4.out) hb5; obtain ⟨e0, _⟩ := heapcell hd5 0; obtain ⟨e1, _⟩ := heapcell hd5 1; obtain ⟨e2, _⟩ := heapcell hd5 2; obtain ⟨e3, _⟩ := heapcell hd5 3) | (go_at_call 27; refine (of_any _ _ _).mono ?_; rintro e w6 ⟨rfl, rfl⟩))
        all_goals
          have HB5 := Lib.hid (HB4.out.drew.trans (hb5.mono HB4.out.drew.size))
          clear hb5 hd5
          go_wp2_with fail
          go_ret2
          exact leaf_done rfl (.inr (.inr rfl)) HB5.out ⟨rfl, rfl, rfl, rfl⟩
  · have hcb : (c != 0) = true := by simpa using hc
    go_wp2_with fail
    refine (new_any w1 c hc).mono ?_
    rintro e w2 ⟨rfl, rfl⟩
    go_wp2_with fail
    go_ret2
    exact .inl ⟨_, _, rfl, below_allocA HB1.out _⟩
end

section
open Go.RowKit
set_option maxRecDepth 100000
/-- What was there stands, but for one block. -/
structure KB1 (cb : Nat) (w w' : World) : Prop where
  os : w'.os = w.os
  tape : w'.tape = w.tape
  output : w'.output = w.output
  size : w.heap.size ≤ w'.heap.size
  block : ∀ g, g < w.heap.size → g ≠ cb → w'.heap[g]? = w.heap[g]?
theorem KB1.of_below {cb : Nat} {w w' : World} (h : Below w.heap.size w w') : KB1 cb w w' := ⟨h.os, h.tape, h.output, h.size, fun g hg _ => h.block g hg⟩
theorem KB1.trans {cb : Nat} {a b c : World} (h : KB1 cb a b) (k : KB1 cb b c) : KB1 cb a c := ⟨k.os.trans h.os, k.tape.trans h.tape, k.output.trans h.output, Nat.le_trans h.size k.size, fun g hg hn => (k.block g (Nat.lt_of_lt_of_le hg h.size) hn).trans (h.block g hg hn)⟩
theorem KB1.set {cb j : Nat} {w : World} (v : Value) : KB1 cb w (w.setCell ⟨cb, j, none⟩ v) := ⟨rfl, rfl, rfl, by simp [World.setCell], fun g _ hn => heap_set_ne v hn⟩
theorem KB1.drew {cb : Nat} {w w' : World} (h : KB1 cb w w') : KB1 cb w w'.drew := ⟨h.os, h.tape, h.output, h.size, h.block⟩
def CntAt (w : World) (cb : Nat) (n m : Int) : Prop := w.heap[cb]? = some (.cells #[.int .i64 n, .int .i64 m] 126 (0, 0))
theorem CntAt.below {w w' : World} {cb : Nat} {n m : Int} (h : CntAt w cb n m) (hb : Below w.heap.size w w') : CntAt w' cb n m := heap_keep h hb
theorem cnt_set {w : World} {cb : Nat} {n m a : Int} (h : CntAt w cb n m) : CntAt (w.setCell ⟨cb, 0, none⟩ (.int .i64 a)) cb a m := heap_setA h _
theorem cnt_set1 {w : World} {cb : Nat} {n m a : Int} (h : CntAt w cb n m) : CntAt (w.setCell ⟨cb, 1, none⟩ (.int .i64 a)) cb n a := heap_setA h _
theorem base_set {w : World} {cb nb j : Nat} {k s : ByteArray} {n : Int} {kv v : Value} (h : BaseAt w nb k n s kv) (hn : nb ≠ cb) : BaseAt (w.setCell ⟨cb, j, none⟩ v) nb k n s kv := base_keep h (heap_set_ne v hn)
/-- Where the walk stands behind the counting. -/
structure PlW (w : World) (R cb nb : Nat) (kk : ByteArray) (n : Int) (s : ByteArray) (kv : Value) (c0 c1 : Int) (wr : World) : Prop where
  c : CntAt wr cb c0 c1
  b : BaseAt wr nb kk n s kv
  r : wr.heap[R]? = some (.cells #[.string ⟨#[]⟩, .int .i64 0, .string ⟨#[]⟩, .slice none 0 0] 24 (0, 0))
  kb : KB1 cb w wr
  nr : R ≠ cb
  nb : w.heap.size ≤ R
section
variable {w : World} {R cb nb D : Nat} {kk : ByteArray} {n : Int} {s : ByteArray} {kv kids : Value} {c0 c1 : Int} {wr w' w1 w2 : World}
theorem PlW.drew (h : PlW w R cb nb kk n s kv c0 c1 wr) : PlW w R cb nb kk n s kv c0 c1 wr.drew := ⟨h.c, h.b, h.r, h.kb.drew, h.nr, h.nb⟩
theorem PlW.fill (h : PlW w R cb nb kk n s kv c0 c1 wr) (a b c d : Value) :
    ((((wr.setCell ⟨R, 0, none⟩ a).setCell ⟨R, 1, none⟩ b).setCell ⟨R, 2, none⟩ c).setCell ⟨R, 3, none⟩ d).heap[R]? = some (.cells #[a, b, c, d] 24 (0, 0)) ∧
    CntAt ((((wr.setCell ⟨R, 0, none⟩ a).setCell ⟨R, 1, none⟩ b).setCell ⟨R, 2, none⟩ c).setCell ⟨R, 3, none⟩ d) cb c0 c1 ∧ KB1 cb w ((((wr.setCell ⟨R, 0, none⟩ a).setCell ⟨R, 1, none⟩ b).setCell ⟨R, 2, none⟩ c).setCell ⟨R, 3, none⟩ d) ∧
    (∀ g, g ≠ R → ((((wr.setCell ⟨R, 0, none⟩ a).setCell ⟨R, 1, none⟩ b).setCell ⟨R, 2, none⟩ c).setCell ⟨R, 3, none⟩ d).heap[g]? = wr.heap[g]?) := by
  have hn : cb ≠ R := fun e => h.nr e.symm
  have key : ∀ g, g ≠ R → ((((wr.setCell ⟨R, 0, none⟩ a).setCell ⟨R, 1, none⟩ b).setCell ⟨R, 2, none⟩ c).setCell ⟨R, 3, none⟩ d).heap[g]? = wr.heap[g]? := fun g hg => by
    rw [heap_set_ne _ hg, heap_set_ne _ hg, heap_set_ne _ hg, heap_set_ne _ hg]
  refine ⟨heap_setA (heap_setA (heap_setA (heap_setA h.r _) _) _) _, (key cb hn).trans h.c, ⟨h.kb.os, h.kb.tape, h.kb.output, by have := h.kb.size; simpa [World.setCell] using this, fun g hg hne => ?_⟩, key⟩
  exact (key g (by have := h.nb; omega)).trans (h.kb.block g hg hne)
/-- The kids' cells. -/
def reps (x : List Value) : Nat → List Value
  | 0 => []
  | i + 1 => reps x i ++ x
structure PlX (w : World) (R cb nb D : Nat) (kk : ByteArray) (n : Int) (s : ByteArray) (kv kids : Value) (c0 c1 : Int) (i : Nat) (xs : List Value) (wr : World) : Prop where
  p : PlW w R cb nb kk n s kv c0 c1 wr
  d : wr.heap[D]? = some (.cells #[.string kk, .int .i64 n, .string s, kids] 24 (0, 0))
  dr : D ≠ R
  dc : D ≠ cb
  dn : w.heap.size ≤ D
  o : wr.ownsRow w.heap.size 24 4 kids i xs
  od : kids.ownBlock ≠ some D
  oR : kids.ownBlock ≠ some R
  oc : kids.ownBlock ≠ some cb
theorem PlW.box (h : PlW w R cb nb kk n s kv c0 c1 wr) : PlX w R cb nb wr.heap.size kk n s kv (.slice none 0 0) c0 c1 0 [] (wr.alloc (.cells #[.string kk, .int .i64 n, .string s, .slice none 0 0] 24)) := by
  have hb := alloc_below wr (.cells #[.string kk, .int .i64 n, .string s, .slice none 0 0] 24)
  have hR := (Array.getElem?_eq_some_iff.1 h.r).1
  have hC := (Array.getElem?_eq_some_iff.1 h.c).1
  exact ⟨⟨h.c.below hb, base_below h.b hb, heap_keep h.r hb, h.kb.trans (KB1.of_below hb), h.nr, h.nb⟩, heap_alloc_new wr _, by omega, by omega, h.kb.size, ⟨rfl, .inl ⟨rfl, rfl⟩⟩, by simp [Value.ownBlock], by simp [Value.ownBlock], by simp [Value.ownBlock]⟩
theorem PlX.keep {i : Nat} {xs : List Value} {a b : Int} (h : PlX w R cb nb D kk n s kv kids c0 c1 i xs wr) (hn : nb ≠ cb) (hc : CntAt w' cb a b) (hk : KB1 cb wr w') : PlX w R cb nb D kk n s kv kids a b i xs w' := by
  have hR := (Array.getElem?_eq_some_iff.1 h.p.r).1
  have hD := (Array.getElem?_eq_some_iff.1 h.d).1
  have hl := World.block_lt_of_cell? wr _ h.p.b.1
  exact ⟨⟨hc, base_keep h.p.b (hk.block nb hl hn), (hk.block R hR h.p.nr).trans h.p.r, h.p.kb.trans hk, h.p.nr, h.p.nb⟩, (hk.block D hD h.dc).trans h.d, h.dr, h.dc, h.dn, ownsRow_keep h.o (fun g e => hk.block g (h.o.lt g e).2 (fun e2 => h.oc (e2 ▸ e))), h.od, h.oR, h.oc⟩
theorem PlX.below {i : Nat} {xs : List Value} (h : PlX w R cb nb D kk n s kv kids c0 c1 i xs wr) (hn : nb ≠ cb) (hb : Below wr.heap.size wr w') : PlX w R cb nb D kk n s kv kids c0 c1 i xs w' :=
  h.keep hn (h.p.c.below hb) (KB1.of_below hb)
theorem PlX.push {i : Nat} {xs ys : List Value} {kids' : Value} (h : PlX w R cb nb D kk n s kv kids c0 c1 i xs wr) (hn : nb ≠ cb) (hbn : nb ≠ D) (hbl : nb < w.heap.size) (hb : Below wr.heap.size wr w1) (hg : w1.grownBy w2 kids.ownBlock)
    (ho : w2.ownsRow w.heap.size 24 4 kids' (i + 1) ys) (hblk : kids'.ownBlock = kids.ownBlock ∨ kids'.ownBlock = some w1.heap.size) :
    PlX w R cb nb D kk n s kv kids' c0 c1 (i + 1) ys (w2.setCell ⟨D, 3, none⟩ kids') := by
  have h1 := h.below hn hb
  have hD := (Array.getElem?_eq_some_iff.1 h1.d).1
  have hR := (Array.getElem?_eq_some_iff.1 h1.p.r).1
  have hC := (Array.getElem?_eq_some_iff.1 h1.p.c).1
  have hN := World.block_lt_of_cell? w1 _ h1.p.b.1
  have key : ∀ g, g < w1.heap.size → g ≠ D → kids.ownBlock ≠ some g → (w2.setCell ⟨D, 3, none⟩ kids').heap[g]? = w1.heap[g]? := fun g h1 h2 h3 => by
    rw [heap_set_ne _ h2, hg.block g h1 (fun e => h3 e.symm)]
  have ne : ∀ g, g < w1.heap.size → kids.ownBlock ≠ some g → kids'.ownBlock ≠ some g := fun g h1 h2 e => by
    rcases hblk with h3 | h3
    · exact h2 (h3.symm.trans e)
    · rw [h3] at e; simp at e; omega
  have hd2 : w2.heap[D]? = some (.cells #[.string kk, .int .i64 n, .string s, kids] 24 (0, 0)) := (hg.block D hD (fun e => h1.od e.symm)).trans h1.d
  have hnk : kids.ownBlock ≠ some nb := fun e => by
    have := (h.o.lt nb e).1; omega
  refine ⟨⟨(key cb hC (fun e => h1.dc e.symm) h1.oc).trans h1.p.c, base_keep h1.p.b (key nb hN hbn hnk), (key R hR (fun e => h1.dr e.symm) h1.oR).trans h1.p.r, ⟨?_, ?_, ?_, ?_, fun g h3 h4 => ?_⟩, h1.p.nr, h1.p.nb⟩, heap_setA hd2 _, h1.dr, h1.dc, h1.dn, ownsRow_keep ho (fun g e => heap_set_ne _ (fun e2 => ne D hD h1.od (e2 ▸ e))), ne D hD h1.od, ne R hR h1.oR, ne cb hC h1.oc⟩
  · exact hg.os.trans h1.p.kb.os
  · exact hg.tape.trans h1.p.kb.tape
  · exact hg.output.trans h1.p.kb.output
  · have := hg.size; have := h1.p.kb.size; simp only [World.setCell, Array.size_modify]; omega
  · have := h1.p.kb.size
    have := h1.dn
    rw [key g (by omega) (by omega) (fun e => by have := (h1.o.lt g e).1; omega)]
    exact h1.p.kb.block g h3 h4
end
theorem info24 : (Tryz.prog.info? 24).map (fun i => (i.zero, i.size, i.bytes)) = some (some (.agg #[.string ⟨#[]⟩, .int .i64 0, .string ⟨#[]⟩, .slice none 0 0]), 4, 64) := by kernel_rfl
theorem four_new (w : World) (a b c d : Value) (t : TypeId) : ∀ j u, [a, b, c, d][j]? = some u → (w.alloc (.cells #[a, b, c, d] t)).cell? ((⟨w.heap.size, 0, none⟩ : Addr).add j) = some u := by
  intro j u hu
  rw [addr_add0]
  rw [(heapcell (heap_alloc_new w _) j).1]
  simpa using hu
def leafC (k : ByteArray) (n : Int) (s : ByteArray) : List Value := [.string k, .int .i64 n, .string s, .slice none 0 0]
def zeroT : Value := .agg #[.string ⟨#[]⟩, .int .i64 0, .string ⟨#[]⟩, .slice none 0 0]
/-- A tree of one level: its kids are m copies of one leaf. -/
def TreeV (base : Nat) (w : World) (kk : ByteArray) (n : Int) (s : ByteArray) (m : Nat) (x : List Value) (v : Value) : Prop := ∃ kv, v = .agg #[.string kk, .int .i64 n, .string s, kv] ∧ w.ownsRow base 24 4 kv m (reps x m) ∧ (m = 0 → kv = .slice none 0 0)
/-- What 'plain' answers. -/
def PlE (cb : Nat) (c0 c1 : Int) (kk : ByteArray) (n : Int) (s : ByteArray) (m : Nat) (x : List Value) (sx : Nat) (w : World) (e : Ending) (w' : World) : Prop :=
  KB1 cb w w' ∧ ((c1 + s.size + m * sx ≤ 16384 ∧ CntAt w' cb (c0 + 1 + m) (c1 + s.size + m * sx) ∧ ∃ v, e = .returned (.tuple #[v, .bool true]) ∧ TreeV w.heap.size w' kk n s m x v) ∨
    (16384 < c1 + s.size + m * sx ∧ (∃ a b, CntAt w' cb a b) ∧ e = .returned (.tuple #[zeroT, .bool false])))
end

section
open Go.RowKit
set_option maxRecDepth 100000
set_option maxHeartbeats 8000000 in
theorem plain_gen (t : TypeId) (v : Value) (w : World) (nb cb kb kc m : Nat) (la : Option Addr) (kk : ByteArray) (n : Int) (s : ByteArray) (tx : TypeId) (xv : Value) (kx : ByteArray) (nx : Int) (sx : ByteArray) (d c0 c1 : Int)
    (hM : ∀ W, KB1 cb w W → MetAt W t v nb) (hm : m ≤ 3) (hla : 0 < m → la = some ⟨kb, 0, none⟩) (hB : BaseAt w nb kk n s (.slice la m kc)) (hnl : nb < w.heap.size) (hne : nb ≠ cb)
    (hkc : ∀ W, KB1 cb w W → ∀ i, i < m → W.cell? ⟨kb, i, none⟩ = some (.iface tx xv))
    (hrec : 0 < m → ∀ W a b, KB1 cb w W → CntAt W cb a b → 0 ≤ a → a ≤ c0 + 5 → 0 ≤ b → b ≤ 16384 → Calls Tryz.prog 34 #[.iface tx xv, .int .i64 (d + 1), .pointer (some ⟨cb, 0, none⟩)] W (PlE cb a b kx nx sx 0 [] 0 W))
    (hc : CntAt w cb c0 c1) (hc0 : 0 ≤ c0 ∧ c0 ≤ 100) (hc1 : 0 ≤ c1 ∧ c1 ≤ 16384) (hd : 1 ≤ d ∧ d ≤ 10) (hs : s.size ≤ 140737488355328) (hsx : sx.size ≤ 140737488355328) :
    Calls Tryz.prog 34 #[.iface t v, .int .i64 d, .pointer (some ⟨cb, 0, none⟩)] w (PlE cb c0 c1 kk n s m (leafC kx nx sx) sx.size w) := by
  obtain ⟨i24, hi24, hy0, hy1, hy2⟩ := info_parts info24
  have HI := Lib.hid (And.intro hi24 (And.intro hy0 (And.intro hy1 hy2)))
  have HKC := Lib.hid hkc
  have HREC := Lib.hid hrec
  have HM := Lib.hid hM
  have HLA := Lib.hid hla
  have HNL := Lib.hid hnl
  clear hi24 hy0 hy1 hy2 hkc hrec hM hla
  have hcl : cb < w.heap.size := (Array.getElem?_eq_some_iff.1 hc).1
  have hb0 := alloc_below w (.cells #[.string ⟨#[]⟩, .int .i64 0, .string ⟨#[]⟩, .slice none 0 0] 24)
  have hr0 := heap_alloc_new w (.cells #[.string ⟨#[]⟩, .int .i64 0, .string ⟨#[]⟩, .slice none 0 0] 24)
  have hcc0 := hc.below hb0
  have hB0 := base_below hB hb0
  have hne2 : w.heap.size ≠ cb := by omega
  have HN := Lib.hid hne
  obtain ⟨ss, hss⟩ : ∃ ss : Int, ss = (s.size : Int) := ⟨_, rfl⟩
  have HSS := Lib.hid hss
  have hss1 : 0 ≤ ss ∧ ss ≤ 140737488355328 := by omega
  have hw0 : IntKind.i64.wrap (c0 + 1) = c0 + 1 := by exact IntWalk.i64_in _ (by omega)
  have hw1 : IntKind.i64.wrap (c1 + (s.size : Int)) = c1 + ss := by rw [hss]; exact IntWalk.i64_in _ (by omega)
  have hw2 : IntKind.i64.wrap (d + 1) = d + 1 := by exact IntWalk.i64_in _ (by omega)
  clear hne
  go_enter Tryz.func34, Tryz.ntmps34
  generalize hwg : w.alloc (.cells #[.string ⟨#[]⟩, .int .i64 0, .string ⟨#[]⟩, .slice none 0 0] 24) = w0 at hb0 hr0 hcc0 hB0
  obtain ⟨q0, g0⟩ := heapcell hcc0 0
  obtain ⟨q1, g1⟩ := heapcell hcc0 1
  have h1 : BaseAt (w0.setCell ⟨cb, 0, none⟩ (.int .i64 (c0 + 1))) nb kk n s (.slice la m kc) := base_set hB0 HN.out
  have h1d : BaseAt ((w0.setCell ⟨cb, 0, none⟩ (.int .i64 (c0 + 1))).drew) nb kk n s (.slice la m kc) := h1
  have HTX := Lib.hid (text_m _ nb kk s n _ h1d)
  have hmt := (HM.out (w0.setCell ⟨cb, 0, none⟩ (.int .i64 (c0 + 1))).drew ((KB1.of_below hb0).trans (KB1.set _)).drew).text
  have hW : PlW w w.heap.size cb nb kk n s (.slice la m kc) (c0 + 1) (c1 + ss) ((w0.setCell ⟨cb, 0, none⟩ (.int .i64 (c0 + 1))).setCell ⟨cb, 1, none⟩ (.int .i64 (c1 + ss))) :=
    ⟨cnt_set1 (cnt_set hcc0), base_set h1 HN.out, by rw [heap_set_ne _ hne2, heap_set_ne _ hne2]; exact hr0, ((KB1.of_below hb0).trans (KB1.set _)).trans (KB1.set _), hne2, Nat.le_refl _⟩
  have HW := Lib.hid hW
  clear h1 h1d hW hc hB hb0 hr0 hcc0 hB0 hss
  go_wp2_with fail
  go_cut [] from 12 to 28 (fun wx => Hid (PlW w w.heap.size cb nb kk n s (.slice la m kc) (c0 + 1) (c1 + ss) wx))
  case first =>
    go_region_with (go_at_call 117; refine HTX.out.mono ?_; rintro e w' ⟨rfl, rfl⟩)
    all_goals
      go_wp2_with fail
      go_meet
      first
      | exact HW
      | exact Lib.hid HW.out.drew
  case rest =>
    have HW2 := hcut
    clear q0 q1 g0 g1 HTX HW hmt
    obtain ⟨k0, f0⟩ := heapcell HW2.out.c 0
    obtain ⟨k1, f1⟩ := heapcell HW2.out.c 1
    have hkb := HW2.out.kb
    have hmk := (HM.out wc hkb).kind
    have hmn := (HM.out wc hkb).num
    have hmt := (HM.out wc hkb).text
    have HBd : Hid (BaseAt wc nb kk n s (.slice la m kc)) := Lib.hid HW2.out.b
    clear hkb
    by_cases hbig : 16384 < c1 + ss
    · obtain ⟨r0, e0⟩ := heapcell HW2.out.r 0
      obtain ⟨r1, e1⟩ := heapcell HW2.out.r 1
      obtain ⟨r2, e2⟩ := heapcell HW2.out.r 2
      obtain ⟨r3, e3⟩ := heapcell HW2.out.r 3
      go_wp2_with fail
      have hz := HW2.out.fill (.string ⟨#[]⟩) (.int .i64 0) (.string ⟨#[]⟩) (.slice none 0 0)
      generalize (((wc.setCell ⟨w.heap.size, 0, none⟩ (.string ⟨#[]⟩)).setCell ⟨w.heap.size, 1, none⟩ (.int .i64 0)).setCell ⟨w.heap.size, 2, none⟩ (.string ⟨#[]⟩)).setCell ⟨w.heap.size, 3, none⟩ (.slice none 0 0) = W3 at hz ⊢
      obtain ⟨z1, z2, z3, _⟩ := hz
      obtain ⟨p0, _⟩ := heapcell z1 0
      obtain ⟨p1, _⟩ := heapcell z1 1
      obtain ⟨p2, _⟩ := heapcell z1 2
      obtain ⟨p3, _⟩ := heapcell z1 3
      refine bodyPost_ret (v := .tuple #[.agg #[.string ⟨#[]⟩, .int .i64 0, .string ⟨#[]⟩, .slice none 0 0], .bool false]) (by simp [results, Tryz.results34, go_sem, p0, p1, p2, p3]) rfl ⟨z3, .inr ⟨?_, ⟨_, _, z2⟩, rfl⟩⟩
      have h1 := HSS.out
      have h2 : 0 ≤ (m : Int) * (sx.size : Int) := Int.mul_nonneg (by omega) (by omega)
      omega
    · have HBIG := Lib.hid hbig
      go_wp2_with fail
      refine (kind_m _ nb kk s n _ HBd.out).mono ?_
      rintro e w' ⟨rfl, hw'⟩
      obtain rfl := hw'.symm
      go_wp2_with fail
      refine (num_m _ nb kk s n _ HBd.out).mono ?_
      rintro e w' ⟨rfl, hw'⟩
      obtain rfl := hw'.symm
      go_wp2_with fail
      refine (text_m _ nb kk s n _ HBd.out).mono ?_
      rintro e w' ⟨rfl, hw'⟩
      obtain rfl := hw'.symm
      have hX := HW2.out.box
      go_upto_region 6 with fail
      generalize (wc.alloc (.cells #[.string kk, .int .i64 n, .string s, .slice none 0 0] 24)) = W2 at hX ⊢
      generalize wc.heap.size = D at hX ⊢
      have HX := Lib.hid hX
      have hml := (HM.out W2 HX.out.p.kb).len
      clear hX HBd k0 k1 f0 f1 HW2 hmk hmn hmt
      go_wp2_with fail
      refine (len_m _ nb kk s n la m kc HX.out.p.b).mono ?_
      rintro e w' ⟨rfl, hw'⟩
      obtain rfl := hw'.symm
      clear hml
      go_wp2_with fail
      go_loopw [55] (fun iv wr => ∃ (i : Nat) (kids : Value), i ≤ m ∧ iv = .int .i64 i ∧ Hid (i = 0 → kids = .slice none 0 0) ∧ Hid (c1 + ss + i * sx.size ≤ 16384) ∧ Hid (PlX w w.heap.size cb nb D kk n s (.slice la m kc) kids (c0 + 1 + i) (c1 + ss + i * sx.size) i (reps (leafC kx nx sx) i) wr)) (fun iv _ => m - (intOf iv).toNat)
      case atStart => exact ⟨0, _, by omega, rfl, Lib.hid (fun _ => rfl), Lib.hid (by have := HBIG.out; omega), by simpa [reps] using HX⟩
      case round =>
        obtain ⟨i, kids, hi, rfl, HK0, HLE, HX⟩ := hrel
        by_cases hlt : i < m
        · have hltI : (i : Int) < (m : Int) := by omega
          have hmk := (HM.out wr HX.out.p.kb).kid
          obtain rfl := HLA.out (by omega)
          go_wp2_with fail
          refine (kid_m _ nb kk s n kb kc i m hlt (.iface tx xv) HX.out.p.b (HKC.out _ HX.out.p.kb i hlt)).mono ?_
          rintro e w' ⟨rfl, rfl⟩
          go_wp2_with fail
          have hnn : 0 ≤ (i : Int) * (sx.size : Int) := Int.mul_nonneg (by omega) (by omega)
          refine (HREC.out (by omega) _ _ _ HX.out.p.kb HX.out.p.c (by omega) (by omega) (by omega) HLE.out).mono ?_
          rintro e w3 ⟨hk3, hT⟩
          have hmul : ((i : Int) + 1) * (sx.size : Int) = i * sx.size + sx.size := by rw [Int.add_mul]; omega
          rcases hT with ⟨hle, hc3, tv, rfl, kv0, rfl, _, hk0⟩ | ⟨hgt, ⟨a, b, hc3⟩, rfl⟩
          · obtain rfl := hk0 rfl
            have e1 : c0 + 1 + (i : Int) + 1 + ((0 : Nat) : Int) = c0 + 1 + ((i + 1 : Nat) : Int) := by omega
            have e2 : c1 + ss + (i : Int) * sx.size + sx.size + ((0 : Nat) : Int) * ((0 : Nat) : Int) = c1 + ss + ((i + 1 : Nat) : Int) * sx.size := by
              rw [show ((i + 1 : Nat) : Int) = (i : Int) + 1 from by omega, hmul]; simp; omega
            rw [e1, e2] at hc3
            rw [e2] at hle
            clear e1 e2
            have HX3 := Lib.hid (HX.out.keep HN.out hc3 hk3)
            have HLE3 := Lib.hid hle
            have HMUL := Lib.hid hmul
            clear hc3 hk3 HX hk0 hmk hle hmul hnn
            have hRl : w.heap.size < w3.heap.size := (Array.getElem?_eq_some_iff.1 HX3.out.p.r).1
            have hDl : D < w3.heap.size := (Array.getElem?_eq_some_iff.1 HX3.out.d).1
            go_upto_region 12 with fail
            have hb4 := alloc_below w3 (.cells #[.string kx, .int .i64 nx, .string sx, .slice none 0 0] 24)
            have hm4 := heap_alloc_new w3 (.cells #[.string kx, .int .i64 nx, .string sx, .slice none 0 0] 24)
            have HX4 := Lib.hid (HX3.out.below HN.out hb4)
            generalize w3.alloc (.cells #[.string kx, .int .i64 nx, .string sx, .slice none 0 0] 24) = W4 at hb4 hm4 HX4 ⊢
            generalize w3.heap.size = M at hm4 ⊢
            obtain ⟨m0, _⟩ := heapcell hm4 0
            obtain ⟨m1', _⟩ := heapcell hm4 1
            obtain ⟨m2', _⟩ := heapcell hm4 2
            obtain ⟨m3', _⟩ := heapcell hm4 3
            obtain ⟨d3, q3⟩ := heapcell HX4.out.d 3
            have HO : Hid ((W4.alloc (.cells #[.string kx, .int .i64 nx, .string sx, .slice none 0 0] 24)).ownsRow w.heap.size 24 4 kids i (reps (leafC kx nx sx) i)) := Lib.hid (HX4.out.o.alloc _)
            have HSZ : Hid (w.heap.size ≤ (W4.alloc (.cells #[.string kx, .int .i64 nx, .string sx, .slice none 0 0] 24)).heap.size) := Lib.hid (by have := HX4.out.p.kb.size; rw [World.size_alloc]; omega)
            obtain ⟨ka, kc', hks⟩ := own_slice HX4.out.o
            subst hks
            clear hRl hDl hb4 hm4 HX3
            go_wp2_with (at_builtin; refine wpList_append_own_at _ rfl _ _ 22 rfl w.heap.size 24 i24 (.agg #[.string ⟨#[]⟩, .int .i64 0, .string ⟨#[]⟩, .slice none 0 0]) 4 64 Tryz.underlying22 HI.out.1 HI.out.2.1 HI.out.2.2.1 HI.out.2.2.2 rfl (by decide) _ _ _ rfl HO.out ⟨W4.heap.size, 0, none⟩ 1 1 [.string kx, .int .i64 nx, .string sx, .slice none 0 0] rfl rfl ?c1 ?c2 ?c3 ?c4 HSZ.out ?_)
            case c1 => exact four_new _ _ _ _ _ _
            case c2 => intro u hu; simp at hu; rcases hu with rfl | rfl | rfl | rfl <;> rfl
            case c3 => unfold maxLen; omega
            case c4 => omega
            intro kv' w5 hown hgrow _ hblk
            obtain ⟨ka', kc2, hks⟩ := own_slice hown
            subst hks
            have hnd : nb ≠ D := by have := HX4.out.dn; have := HNL.out; omega
            have hd5 : w5.heap[D]? = some (.cells #[.string kk, .int .i64 n, .string s, .slice ka i kc'] 24 (0, 0)) := by
              have hl := (Array.getElem?_eq_some_iff.1 HX4.out.d).1
              rw [hgrow.block D (by simp; omega) (fun e => HX4.out.od e.symm), Below.heap_alloc _ _ _ hl]
              exact HX4.out.d
            have HP := Lib.hid (HX4.out.push HN.out hnd HNL.out (alloc_below W4 _) hgrow hown (by simpa using hblk))
            obtain ⟨x3, y3⟩ := heapcell hd5 3
            clear hown hgrow hblk hd5 d3 q3
            go_wp2_with fail
            go_roundw
            case rel => exact ⟨i + 1, _, by omega, by go_num, Lib.hid (fun h => by omega), HLE3, HP⟩
            case measure => simp [intOf]; omega
          · have HX3 := Lib.hid (HX.out.keep HN.out hc3 hk3)
            have hmm : ((i : Int) + 1) * (sx.size : Int) ≤ m * sx.size := Int.mul_le_mul_of_nonneg_right (by omega) (by omega)
            have hfin : 16384 < c1 + ss + (m : Int) * sx.size := by
              simp at hgt; omega
            have HFIN := Lib.hid hfin
            clear hc3 hk3 HX hmk hgt hmul hnn hmm hfin
            obtain ⟨r0, e0⟩ := heapcell HX3.out.p.r 0
            obtain ⟨r1, e1⟩ := heapcell HX3.out.p.r 1
            obtain ⟨r2, e2⟩ := heapcell HX3.out.p.r 2
            obtain ⟨r3, e3⟩ := heapcell HX3.out.p.r 3
            have hRl : w.heap.size < w3.heap.size := (Array.getElem?_eq_some_iff.1 HX3.out.p.r).1
            unfold zeroT
            go_wp2_with fail
            have hz := HX3.out.p.fill (.string ⟨#[]⟩) (.int .i64 0) (.string ⟨#[]⟩) (.slice none 0 0)
            generalize (((w3.setCell ⟨w.heap.size, 0, none⟩ (.string ⟨#[]⟩)).setCell ⟨w.heap.size, 1, none⟩ (.int .i64 0)).setCell ⟨w.heap.size, 2, none⟩ (.string ⟨#[]⟩)).setCell ⟨w.heap.size, 3, none⟩ (.slice none 0 0) = W5 at hz ⊢
            have hz : (W5.alloc (.cells #[.string ⟨#[]⟩, .int .i64 0, .string ⟨#[]⟩, .slice none 0 0] 24)).heap[w.heap.size]? = some (.cells #[.string ⟨#[]⟩, .int .i64 0, .string ⟨#[]⟩, .slice none 0 0] 24 (0, 0)) ∧ CntAt (W5.alloc (.cells #[.string ⟨#[]⟩, .int .i64 0, .string ⟨#[]⟩, .slice none 0 0] 24)) cb a b ∧ KB1 cb w (W5.alloc (.cells #[.string ⟨#[]⟩, .int .i64 0, .string ⟨#[]⟩, .slice none 0 0] 24)) :=
              ⟨heap_keep hz.1 (alloc_below W5 _), hz.2.1.below (alloc_below W5 _), hz.2.2.1.trans (KB1.of_below (alloc_below W5 _))⟩
            generalize W5.alloc (.cells #[.string ⟨#[]⟩, .int .i64 0, .string ⟨#[]⟩, .slice none 0 0] 24) = W6 at hz ⊢
            obtain ⟨z1, z2, z3⟩ := hz
            obtain ⟨p0, _⟩ := heapcell z1 0
            obtain ⟨p1, _⟩ := heapcell z1 1
            obtain ⟨p2, _⟩ := heapcell z1 2
            obtain ⟨p3, _⟩ := heapcell z1 3
            exact bodyPost_ret (v := .tuple #[.agg #[.string ⟨#[]⟩, .int .i64 0, .string ⟨#[]⟩, .slice none 0 0], .bool false]) (by simp [results, Tryz.results34, go_sem, p0, p1, p2, p3]) rfl ⟨z3, .inr ⟨by have := HSS.out; have := HFIN.out; omega, ⟨_, _, z2⟩, rfl⟩⟩
        · obtain rfl : i = m := by omega
          have hltI : ¬ (i : Int) < (i : Int) := by omega
          obtain ⟨d0, _⟩ := heapcell HX.out.d 0
          obtain ⟨d1, _⟩ := heapcell HX.out.d 1
          obtain ⟨d2, _⟩ := heapcell HX.out.d 2
          obtain ⟨d3, _⟩ := heapcell HX.out.d 3
          obtain ⟨r0, e0⟩ := heapcell HX.out.p.r 0
          obtain ⟨r1, e1⟩ := heapcell HX.out.p.r 1
          obtain ⟨r2, e2⟩ := heapcell HX.out.p.r 2
          obtain ⟨r3, e3⟩ := heapcell HX.out.p.r 3
          obtain ⟨ka, kc', hks⟩ := own_slice HX.out.o
          subst hks
          go_wp2_with fail
          have hz := HX.out.p.fill (.string kk) (.int .i64 n) (.string s) (.slice ka i kc')
          generalize (((wr.setCell ⟨w.heap.size, 0, none⟩ (.string kk)).setCell ⟨w.heap.size, 1, none⟩ (.int .i64 n)).setCell ⟨w.heap.size, 2, none⟩ (.string s)).setCell ⟨w.heap.size, 3, none⟩ (.slice ka i kc') = W5 at hz ⊢
          obtain ⟨z1, z2, z3, z4⟩ := hz
          obtain ⟨p0, _⟩ := heapcell z1 0
          obtain ⟨p1, _⟩ := heapcell z1 1
          obtain ⟨p2, _⟩ := heapcell z1 2
          obtain ⟨p3, _⟩ := heapcell z1 3
          have ho := ownsRow_keep HX.out.o (fun g e => z4 g (fun e2 => HX.out.oR (e2 ▸ e)))
          have h5 := HSS.out
          have h6 := HLE.out
          rw [h5] at h6 z2
          refine bodyPost_ret (v := .tuple #[.agg #[.string kk, .int .i64 n, .string s, .slice ka i kc'], .bool true]) (by simp [results, Tryz.results34, go_sem, p0, p1, p2, p3]) rfl ⟨z3, .inl ⟨h6, z2, _, rfl, _, rfl, ho, fun h0 => HK0.out h0⟩⟩
end

section
open Go.RowKit
set_option maxRecDepth 100000
def FR : ByteArray := ⟨#[98, 97, 115, 101, 46, 102, 114, 97, 109, 101]⟩
theorem LeafAt.met {w : World} {ty : TypeId} {nb : Nat} {k s : ByteArray} {n : Int} (h : LeafAt w ty nb k n s) (W : World) : MetAt W ty (.pointer (some ⟨nb, 0, none⟩)) nb := by
  rcases h.1 with rfl | rfl | rfl
  · exact met94 W nb
  · exact met99 W nb
  · exact met105 W nb
theorem LeafAt.base {w : World} {ty : TypeId} {nb : Nat} {k s : ByteArray} {n : Int} (h : LeafAt w ty nb k n s) : BaseAt w nb k n s (.slice none 0 0) ∧ nb < w.heap.size := by
  obtain ⟨_, cs, t, h1, h2, h3, h4, h5⟩ := h
  exact ⟨⟨(heapcell h1 0).1.trans h2, (heapcell h1 1).1.trans h3, (heapcell h1 2).1.trans h4, (heapcell h1 3).1.trans h5⟩, (Array.getElem?_eq_some_iff.1 h1).1⟩
theorem plain_leaf (w : World) (ty : TypeId) (nb cb : Nat) (k s : ByteArray) (n d c0 c1 : Int) (h : LeafAt w ty nb k n s) (hne : nb ≠ cb) (hc : CntAt w cb c0 c1) (hc0 : 0 ≤ c0 ∧ c0 ≤ 100) (hc1 : 0 ≤ c1 ∧ c1 ≤ 16384) (hd : 1 ≤ d ∧ d ≤ 10) (hs : s.size ≤ 140737488355328) :
    Calls Tryz.prog 34 #[.iface ty (.pointer (some ⟨nb, 0, none⟩)), .int .i64 d, .pointer (some ⟨cb, 0, none⟩)] w (PlE cb c0 c1 k n s 0 [] 0 w) :=
  (plain_gen ty _ w nb cb 0 0 0 none k n s 0 .nilIface ⟨#[]⟩ 0 ⟨#[]⟩ d c0 c1 (fun W _ => h.met W) (by omega) (fun h => by omega) h.base.1 h.base.2 hne (fun W _ i hi => by omega) (fun h => by omega) hc hc0 hc1 hd hs (by decide)).mono fun e w' hp => hp
/-- A handle on a placed frame of three kids: all one node without kids. -/
structure ND (w : World) (hb pb fb kb kc lb : Nat) (f : ByteArray) (l : List Int) (ty : TypeId) (k : ByteArray) (n : Int) (s : ByteArray) : Prop where
  h : HdAt w hb 159 (.pointer (some ⟨pb, 0, none⟩))
  p : PlacedAt w pb 99 (.pointer (some ⟨fb, 0, none⟩)) f l
  fr : w.heap[fb]? = some (.cells #[.string FR, .int .i64 0, .string ⟨#[]⟩, .slice (some ⟨kb, 0, none⟩) 3 kc] 103 (0, 0))
  kr : ∃ (cur : Array Value) (t : TypeId), w.heap[kb]? = some (.cells cur t (0, 0)) ∧ ∀ i, i < 3 → cur[i]? = some (.iface ty (.pointer (some ⟨lb, 0, none⟩)))
  lf : LeafAt w ty lb k n s
theorem ND.below {w w' : World} {hb pb fb kb kc lb : Nat} {f : ByteArray} {l : List Int} {ty : TypeId} {k : ByteArray} {n : Int} {s : ByteArray} (h : ND w hb pb fb kb kc lb f l ty k n s) (hw : Below w.heap.size w w') : ND w' hb pb fb kb kc lb f l ty k n s := by
  obtain ⟨cur, t, h1, h2⟩ := h.kr
  exact ⟨heap_keep h.h hw, h.p.below hw, heap_keep h.fr hw, ⟨cur, t, heap_keep h1 hw, h2⟩, h.lf.below hw⟩
theorem plain_node (w : World) (hb pb fb kb kc lb cb : Nat) (f : ByteArray) (l : List Int) (ty : TypeId) (k s : ByteArray) (n : Int) (h : ND w hb pb fb kb kc lb f l ty k n s) (hc : CntAt w cb 0 0) (hs : s.size ≤ 140737488355328) (hpc : pb ≠ cb) (hfc : fb ≠ cb) (hkc : kb ≠ cb) (hlc : lb ≠ cb) :
    Calls Tryz.prog 34 #[.iface 159 (.pointer (some ⟨pb, 0, none⟩)), .int .i64 1, .pointer (some ⟨cb, 0, none⟩)] w (PlE cb 0 0 FR 0 ⟨#[]⟩ 3 (leafC k n s) s.size w) := by
  obtain ⟨cur, t, h1, h2⟩ := h.kr
  obtain ⟨pv, hp, _⟩ := h.p
  have hlf : ∀ W, KB1 cb w W → LeafAt W ty lb k n s := fun W hk => by
    obtain ⟨h0, cs, t, h1, h2⟩ := h.lf
    exact ⟨h0, cs, t, (hk.block lb (Array.getElem?_eq_some_iff.1 h1).1 hlc).trans h1, h2⟩
  refine plain_gen 159 _ w fb cb kb kc 3 (some ⟨kb, 0, none⟩) FR 0 ⟨#[]⟩ ty (.pointer (some ⟨lb, 0, none⟩)) k n s 1 0 0 (fun W hk => ?_) (by omega) (fun _ => rfl) ?_ (Array.getElem?_eq_some_iff.1 h.fr).1 hfc (fun W hk i hi => ?_) (fun _ W a b hk hca ha0 ha1 hb0 hb1 => ?_) hc ⟨by omega, by omega⟩ ⟨by omega, by omega⟩ ⟨by omega, by omega⟩ (by decide) hs
  · exact met159 W pb fb _ _ ((hk.block pb (Array.getElem?_eq_some_iff.1 hp).1 hpc).trans hp)
  · exact ⟨(heapcell h.fr 0).1, (heapcell h.fr 1).1, (heapcell h.fr 2).1, (heapcell h.fr 3).1⟩
  · exact (heapcell ((hk.block kb (Array.getElem?_eq_some_iff.1 h1).1 hkc).trans h1) i).1.trans (h2 i hi)
  · exact plain_leaf W ty lb cb k s n (1 + 1) a b (hlf W hk) hlc hca ⟨ha0, by omega⟩ ⟨hb0, hb1⟩ ⟨by omega, by omega⟩ hs
/-- The tree that 'Plain' answers. -/
def OutT (base : Nat) (w : World) (k : ByteArray) (n : Int) (s : ByteArray) (v : Value) : Prop := (3 * s.size ≤ 16384 ∧ TreeV base w FR 0 ⟨#[]⟩ 3 (leafC k n s) v) ∨ (16384 < 3 * s.size ∧ v = zeroT)
def PlainE (w : World) (k : ByteArray) (n : Int) (s : ByteArray) (e : Ending) (w' : World) : Prop := ∃ v er, e = .returned (.tuple #[v, er]) ∧ OutT w.heap.size w' k n s v ∧ Below w.heap.size w w'
theorem set4 {w W : World} {R : Nat} {x0 x1 x2 x3 : Value} {t : TypeId} (hB : Below w.heap.size w W) (hR : w.heap.size ≤ R) (hc : W.heap[R]? = some (.cells #[x0, x1, x2, x3] t (0, 0))) (a b c d : Value) :
    ((((W.setCell ⟨R, 0, none⟩ a).setCell ⟨R, 1, none⟩ b).setCell ⟨R, 2, none⟩ c).setCell ⟨R, 3, none⟩ d).heap[R]? = some (.cells #[a, b, c, d] t (0, 0)) ∧
    Below w.heap.size w ((((W.setCell ⟨R, 0, none⟩ a).setCell ⟨R, 1, none⟩ b).setCell ⟨R, 2, none⟩ c).setCell ⟨R, 3, none⟩ d) ∧
    (∀ g, g ≠ R → ((((W.setCell ⟨R, 0, none⟩ a).setCell ⟨R, 1, none⟩ b).setCell ⟨R, 2, none⟩ c).setCell ⟨R, 3, none⟩ d).heap[g]? = W.heap[g]?) :=
  ⟨heap_setA (heap_setA (heap_setA (heap_setA hc _) _) _) _, (((hB.setCell hR _).setCell hR _).setCell hR _).setCell hR _, fun g hg => by
    rw [heap_set_ne _ hg, heap_set_ne _ hg, heap_set_ne _ hg, heap_set_ne _ hg]⟩
set_option maxHeartbeats 4000000 in
theorem nplain_any (w : World) (hb pb fb kb kc lb : Nat) (f : ByteArray) (l : List Int) (ty : TypeId) (k s : ByteArray) (n : Int) (h : ND w hb pb fb kb kc lb f l ty k n s) (hs : s.size ≤ 140737488355328) :
    Calls Tryz.prog 8 #[.pointer (some ⟨hb, 0, none⟩)] w (PlainE w k n s) := by
  have hb0 := alloc_below w (.cells #[.string ⟨#[]⟩, .int .i64 0, .string ⟨#[]⟩, .slice none 0 0] 24)
  have hr0 := heap_alloc_new w (.cells #[.string ⟨#[]⟩, .int .i64 0, .string ⟨#[]⟩, .slice none 0 0] 24)
  have HS := Lib.hid hs
  have HN0 := Lib.hid (h.below hb0)
  have HB0 := Lib.hid hb0
  have HR0 := Lib.hid hr0
  clear hs h hb0 hr0
  go_enter Tryz.func8, Tryz.ntmps8
  go_wp2_with fail
  generalize (w.alloc (.cells #[.string ⟨#[]⟩, .int .i64 0, .string ⟨#[]⟩, .slice none 0 0] 24)) = W at HN0 HB0 HR0 ⊢
  obtain ⟨R, hR⟩ : ∃ R, R = w.heap.size := ⟨_, rfl⟩
  simp only [← hR]
  have HR := Lib.hid hR
  rw [← hR] at HR0
  clear hR
  refine (holds_any W hb 159 _ HN0.out.h).mono ?_
  rintro e w' ⟨rfl, hw'⟩
  obtain rfl := hw'.symm
  obtain ⟨x0, _⟩ := heapcell HN0.out.h 0
  go_wp2_with fail
  have hb1 := alloc_below W (.cells #[.int .i64 0, .int .i64 0] 126)
  have hc1 : CntAt (W.alloc (.cells #[.int .i64 0, .int .i64 0] 126)) W.heap.size 0 0 := heap_alloc_new W _
  have hlt : pb < W.heap.size ∧ fb < W.heap.size ∧ kb < W.heap.size ∧ lb < W.heap.size ∧ R < W.heap.size := by
    obtain ⟨cur, t, h1, _⟩ := HN0.out.kr
    obtain ⟨pv, hp, _⟩ := HN0.out.p
    exact ⟨(Array.getElem?_eq_some_iff.1 hp).1, (Array.getElem?_eq_some_iff.1 HN0.out.fr).1, (Array.getElem?_eq_some_iff.1 h1).1, HN0.out.lf.base.2, (Array.getElem?_eq_some_iff.1 HR0.out).1⟩
  have HN1 := Lib.hid (HN0.out.below hb1)
  have HB1 := Lib.hid (HB0.out.trans (hb1.mono HB0.out.size))
  have HR1 := Lib.hid (heap_keep HR0.out hb1)
  have HLT := Lib.hid hlt
  have HSW := Lib.hid HB0.out.size
  generalize (W.alloc (.cells #[.int .i64 0, .int .i64 0] 126)) = W1 at hc1 HN1 HB1 HR1 ⊢
  generalize W.heap.size = C at hc1 HLT HSW ⊢
  have HC1 := Lib.hid hc1
  clear hb1 hc1 hlt x0
  have hlt := HLT.out
  refine (plain_node W1 hb pb fb kb kc lb C f l ty k s n HN1.out HC1.out HS.out (by omega) (by omega) (by omega) (by omega)).mono ?_
  rintro e w2 ⟨hk, hT⟩
  have hbw : Below w.heap.size w w2 := ⟨hk.os.trans HB1.out.os, hk.tape.trans HB1.out.tape, hk.output.trans HB1.out.output, Nat.le_trans HB1.out.size hk.size, fun g hg => (hk.block g (by have := HB1.out.size; omega) (by have := HSW.out; omega)).trans (HB1.out.block g hg)⟩
  have hR2 : w2.heap[R]? = some (.cells #[.string ⟨#[]⟩, .int .i64 0, .string ⟨#[]⟩, .slice none 0 0] 24 (0, 0)) := (hk.block R (Array.getElem?_eq_some_iff.1 HR1.out).1 (by omega)).trans HR1.out
  have HBW := Lib.hid hbw
  have HR2 := Lib.hid hR2
  have hRl : R < w2.heap.size := (Array.getElem?_eq_some_iff.1 hR2).1
  have HSZ := Lib.hid HB1.out.size
  have hWR : w.heap.size ≤ R := by rw [HR.out]; exact Nat.le_refl _
  have HWR := Lib.hid hWR
  obtain ⟨r0, e0⟩ := heapcell hR2 0
  obtain ⟨r1, e1⟩ := heapcell hR2 1
  obtain ⟨r2, e2⟩ := heapcell hR2 2
  obtain ⟨r3, e3⟩ := heapcell hR2 3
  clear hk hbw hR2 hlt hWR
  rcases hT with ⟨hle, _, v, rfl, kv, rfl, ho, _⟩ | ⟨hgt, _, rfl⟩
  · obtain ⟨ka, kc', hks⟩ := own_slice ho
    subst hks
    have HLE := Lib.hid hle
    have HO := Lib.hid ho
    clear hle ho
    have hne : ∀ g, (Value.slice ka 3 kc').ownBlock = some g → g ≠ R ∧ w.heap.size ≤ g := fun g e => by
      have h1 := (HO.out.lt g e).1
      have h2 : R < W1.heap.size := (Array.getElem?_eq_some_iff.1 HR1.out).1
      have h3 := HSZ.out
      omega
    have HNE := Lib.hid hne
    clear hne
    go_wp2_with fail
    have hz := set4 HBW.out HWR.out HR2.out (.string FR) (.int .i64 0) (.string ⟨#[]⟩) (.slice ka 3 kc')
    generalize ((((w2.setCell ⟨R, 0, none⟩ (.string FR)).setCell ⟨R, 1, none⟩ (.int .i64 0)).setCell ⟨R, 2, none⟩ (.string ⟨#[]⟩)).setCell ⟨R, 3, none⟩ (.slice ka 3 kc')) = W3 at hz ⊢
    obtain ⟨z1, z2, z3⟩ := hz
    have ho : W3.ownsRow W1.heap.size 24 4 (.slice ka 3 kc') 3 (reps (leafC k n s) 3) := ownsRow_keep HO.out (fun g e => z3 g (HNE.out g e).1)
    have ho2 := ho.alloc (.cells #[.string FR, .int .i64 0, .string ⟨#[]⟩, .slice ka 3 kc'] 24)
    have hb4 := alloc_below W3 (.cells #[.string FR, .int .i64 0, .string ⟨#[]⟩, .slice ka 3 kc'] 24)
    have z1' := heap_keep z1 hb4
    have z2' := z2.trans (hb4.mono z2.size)
    generalize W3.alloc (.cells #[.string FR, .int .i64 0, .string ⟨#[]⟩, .slice ka 3 kc'] 24) = W4 at ho2 z1' z2' ⊢
    obtain ⟨p0, _⟩ := heapcell z1' 0
    obtain ⟨p1, _⟩ := heapcell z1' 1
    obtain ⟨p2, _⟩ := heapcell z1' 2
    obtain ⟨p3, _⟩ := heapcell z1' 3
    refine bodyPost_ret (v := .tuple #[.agg #[.string FR, .int .i64 0, .string ⟨#[]⟩, .slice ka 3 kc'], .nilIface]) (by simp [results, Tryz.results8, go_sem, p0, p1, p2, p3]) rfl ⟨_, _, rfl, .inl ⟨?_, _, rfl, ?_, fun h => by omega⟩, z2'⟩
    · have h1 : ((0 : Int) + ((⟨#[]⟩ : ByteArray).size : Nat) + ((3 : Nat) : Int) * (s.size : Int) ≤ 16384) := HLE.out
      have h2 : ((⟨#[]⟩ : ByteArray).size : Nat) = 0 := rfl
      rw [h2] at h1
      omega
    · exact ⟨ho2.1, ho2.2.imp id (fun ⟨g, cap, cur, e, hb, r⟩ => ⟨g, cap, cur, e, Nat.le_trans HSZ.out hb, r⟩)⟩
  · have HGT := Lib.hid hgt
    clear hgt
    unfold zeroT
    go_wp2_with fail
    refine (new_any _ 2 (by decide)).mono ?_
    rintro e w3 ⟨rfl, rfl⟩
    have hb3 := alloc_below w2 (.cells #[.string ⟨#[]⟩, .int .i64 0, .string ⟨#[]⟩, .slice none 0 0] 24)
    have hR3 := heap_keep HR2.out hb3
    have hB3 := HBW.out.trans (hb3.mono HBW.out.size)
    generalize w2.alloc (.cells #[.string ⟨#[]⟩, .int .i64 0, .string ⟨#[]⟩, .slice none 0 0] 24) = W3 at hR3 hB3 ⊢
    have hb4 := alloc_below W3 (.cells #[.int .i64 2] 154)
    have hR4 := heap_keep hR3 hb4
    have hB4 := hB3.trans (hb4.mono hB3.size)
    generalize W3.alloc (.cells #[.int .i64 2] 154) = W4 at hR4 hB4 ⊢
    have HR4 := Lib.hid hR4
    have HB4 := Lib.hid hB4
    clear hb3 hR3 hB3 hb4 r0 r1 r2 r3 e0 e1 e2 e3
    obtain ⟨r0, e0⟩ := heapcell hR4 0
    obtain ⟨r1, e1⟩ := heapcell hR4 1
    obtain ⟨r2, e2⟩ := heapcell hR4 2
    obtain ⟨r3, e3⟩ := heapcell hR4 3
    clear hR4 hB4
    go_wp2_with fail
    have hz := set4 HB4.out HWR.out HR4.out (.string ⟨#[]⟩) (.int .i64 0) (.string ⟨#[]⟩) (.slice none 0 0)
    generalize ((((W4.setCell ⟨R, 0, none⟩ (.string ⟨#[]⟩)).setCell ⟨R, 1, none⟩ (.int .i64 0)).setCell ⟨R, 2, none⟩ (.string ⟨#[]⟩)).setCell ⟨R, 3, none⟩ (.slice none 0 0)) = W5 at hz ⊢
    obtain ⟨z1, z2, z3⟩ := hz
    obtain ⟨p0, _⟩ := heapcell z1 0
    obtain ⟨p1, _⟩ := heapcell z1 1
    obtain ⟨p2, _⟩ := heapcell z1 2
    obtain ⟨p3, _⟩ := heapcell z1 3
    refine bodyPost_ret (v := .tuple #[.agg #[.string ⟨#[]⟩, .int .i64 0, .string ⟨#[]⟩, .slice none 0 0], .iface 152 (.pointer (some ⟨W3.heap.size, 0, none⟩))]) (by simp [results, Tryz.results8, go_sem, p0, p1, p2, p3]) rfl ⟨_, _, rfl, .inr ⟨?_, rfl⟩, z2⟩
    have h1 : 16384 < ((0 : Int) + ((⟨#[]⟩ : ByteArray).size : Nat) + ((3 : Nat) : Int) * (s.size : Int)) := HGT.out
    have h2 : ((⟨#[]⟩ : ByteArray).size : Nat) = 0 := rfl
    rw [h2] at h1
    omega
end
end Go.Proofs.YtlpgfdhihimjaaaGreat
