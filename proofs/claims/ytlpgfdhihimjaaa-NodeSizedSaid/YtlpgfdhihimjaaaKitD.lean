/-
  Plain of a chain of frames: walks by the kit.
  Conditions: none.
-/
import Derived.Test.YtlpgfdhihimjaaaKitC
set_option linter.unusedVariables false
set_option linter.unusedSimpArgs false
namespace Go.Proofs.Ytlpgfdhihimjaaa
section
open Go.RowKit
set_option maxRecDepth 100000
/-- A base's four cells. -/
def BaseAt (w : World) (nb : Nat) (k : ByteArray) (kv : Value) : Prop := w.cell? ⟨nb, 0, none⟩ = some (.string k) ∧ w.cell? ⟨nb, 1, none⟩ = some (.int .i64 0) ∧ w.cell? ⟨nb, 2, none⟩ = some (.string ⟨#[]⟩) ∧ w.cell? ⟨nb, 3, none⟩ = some kv
theorem kind_m (w : World) (nb : Nat) (k : ByteArray) (kv : Value) (h : BaseAt w nb k kv) : Calls Try.prog 104 #[.pointer (some ⟨nb, 0, none⟩)] w fun e w' => e = .returned (.string k) ∧ w' = w := by
  obtain ⟨c0, c1, c2, c3⟩ := h
  go_enter Try.func104, Try.ntmps104
  go_wp2_with fail
  go_ret
  exact ⟨rfl, rfl⟩
theorem num_m (w : World) (nb : Nat) (k : ByteArray) (kv : Value) (h : BaseAt w nb k kv) : Calls Try.prog 106 #[.pointer (some ⟨nb, 0, none⟩)] w fun e w' => e = .returned (.int .i64 0) ∧ w' = w := by
  obtain ⟨c0, c1, c2, c3⟩ := h
  go_enter Try.func106, Try.ntmps106
  go_wp2_with fail
  go_ret
  exact ⟨rfl, rfl⟩
theorem text_m (w : World) (nb : Nat) (k : ByteArray) (kv : Value) (h : BaseAt w nb k kv) : Calls Try.prog 107 #[.pointer (some ⟨nb, 0, none⟩)] w fun e w' => e = .returned (.string ⟨#[]⟩) ∧ w' = w := by
  obtain ⟨c0, c1, c2, c3⟩ := h
  go_enter Try.func107, Try.ntmps107
  go_wp2_with fail
  go_ret
  exact ⟨rfl, rfl⟩
theorem len_m (w : World) (nb : Nat) (k : ByteArray) (la : Option Addr) (n lc : Nat) (h : BaseAt w nb k (.slice la n lc)) : Calls Try.prog 105 #[.pointer (some ⟨nb, 0, none⟩)] w fun e w' => e = .returned (.int .i64 n) ∧ w' = w := by
  obtain ⟨c0, c1, c2, c3⟩ := h
  go_enter Try.func105, Try.ntmps105
  go_wp2_with fail
  go_ret
  exact ⟨rfl, rfl⟩
theorem kid_m (w : World) (nb : Nat) (k : ByteArray) (kb kc : Nat) (x : Value) (h : BaseAt w nb k (.slice (some ⟨kb, 0, none⟩) 1 kc)) (hx : w.cell? ⟨kb, 0, none⟩ = some x) : Calls Try.prog 103 #[.pointer (some ⟨nb, 0, none⟩), .int .i64 0] w fun e w' => e = .returned x ∧ w' = w := by
  obtain ⟨c0, c1, c2, c3⟩ := h
  go_enter Try.func103, Try.ntmps103
  go_wp2_with fail
  go_ret
  exact ⟨rfl, rfl⟩
theorem frames_m (w : World) (nb : Nat) (k : ByteArray) (la : Option Addr) (n lc : Nat) (hn : n ≤ 2000) (h : BaseAt w nb k (.slice la n lc)) : Calls Try.prog 109 #[.pointer (some ⟨nb, 0, none⟩)] w fun e w' => e = .returned (.int .i64 ((n : Int) - 1)) ∧ w' = w := by
  obtain ⟨c0, c1, c2, c3⟩ := h
  go_enter Try.func109, Try.ntmps109
  go_wp2_with fail
  go_ret
  exact ⟨rfl, rfl⟩
@[go_sem] theorem nil_Text97 (a : Addr) (w : World) : (nilAhead 329 97 (.pointer (some a)) "Text").run Try.prog w = .ok (some false) w := by kernel_rfl
@[go_sem] theorem met_Text97 (a : Addr) (w : World) : (method 329 97 (.pointer (some a)) "Text").run Try.prog w = .ok (107, .pointer (some a)) w := by kernel_rfl
@[go_sem] theorem nil_Kind97 (a : Addr) (w : World) : (nilAhead 329 97 (.pointer (some a)) "Kind").run Try.prog w = .ok (some false) w := by kernel_rfl
@[go_sem] theorem met_Kind97 (a : Addr) (w : World) : (method 329 97 (.pointer (some a)) "Kind").run Try.prog w = .ok (104, .pointer (some a)) w := by kernel_rfl
@[go_sem] theorem nil_Num97 (a : Addr) (w : World) : (nilAhead 329 97 (.pointer (some a)) "Num").run Try.prog w = .ok (some false) w := by kernel_rfl
@[go_sem] theorem met_Num97 (a : Addr) (w : World) : (method 329 97 (.pointer (some a)) "Num").run Try.prog w = .ok (106, .pointer (some a)) w := by kernel_rfl
@[go_sem] theorem nil_Len97 (a : Addr) (w : World) : (nilAhead 329 97 (.pointer (some a)) "Len").run Try.prog w = .ok (some false) w := by kernel_rfl
@[go_sem] theorem met_Len97 (a : Addr) (w : World) : (method 329 97 (.pointer (some a)) "Len").run Try.prog w = .ok (105, .pointer (some a)) w := by kernel_rfl
@[go_sem] theorem nil_Kid97 (a : Addr) (w : World) : (nilAhead 329 97 (.pointer (some a)) "Kid").run Try.prog w = .ok (some false) w := by kernel_rfl
@[go_sem] theorem met_Kid97 (a : Addr) (w : World) : (method 329 97 (.pointer (some a)) "Kid").run Try.prog w = .ok (103, .pointer (some a)) w := by kernel_rfl
@[go_sem] theorem nil_Text91 (a : Addr) (w : World) : (nilAhead 329 91 (.pointer (some a)) "Text").run Try.prog w = .ok (some false) w := by kernel_rfl
@[go_sem] theorem met_Text91 (a : Addr) (w : World) : (method 329 91 (.pointer (some a)) "Text").run Try.prog w = .ok (107, .pointer (some a)) w := by kernel_rfl
@[go_sem] theorem nil_Kind91 (a : Addr) (w : World) : (nilAhead 329 91 (.pointer (some a)) "Kind").run Try.prog w = .ok (some false) w := by kernel_rfl
@[go_sem] theorem met_Kind91 (a : Addr) (w : World) : (method 329 91 (.pointer (some a)) "Kind").run Try.prog w = .ok (104, .pointer (some a)) w := by kernel_rfl
@[go_sem] theorem nil_Num91 (a : Addr) (w : World) : (nilAhead 329 91 (.pointer (some a)) "Num").run Try.prog w = .ok (some false) w := by kernel_rfl
@[go_sem] theorem met_Num91 (a : Addr) (w : World) : (method 329 91 (.pointer (some a)) "Num").run Try.prog w = .ok (106, .pointer (some a)) w := by kernel_rfl
@[go_sem] theorem nil_Len91 (a : Addr) (w : World) : (nilAhead 329 91 (.pointer (some a)) "Len").run Try.prog w = .ok (some false) w := by kernel_rfl
@[go_sem] theorem met_Len91 (a : Addr) (w : World) : (method 329 91 (.pointer (some a)) "Len").run Try.prog w = .ok (105, .pointer (some a)) w := by kernel_rfl
@[go_sem] theorem nil_Kid91 (a : Addr) (w : World) : (nilAhead 329 91 (.pointer (some a)) "Kid").run Try.prog w = .ok (some false) w := by kernel_rfl
@[go_sem] theorem met_Kid91 (a : Addr) (w : World) : (method 329 91 (.pointer (some a)) "Kid").run Try.prog w = .ok (103, .pointer (some a)) w := by kernel_rfl
@[go_sem] theorem nil_Frames91 (a : Addr) (w : World) : (nilAhead 329 91 (.pointer (some a)) "Frames").run Try.prog w = .ok (some false) w := by kernel_rfl
@[go_sem] theorem met_Frames91 (a : Addr) (w : World) : (method 329 91 (.pointer (some a)) "Frames").run Try.prog w = .ok (109, .pointer (some a)) w := by kernel_rfl
/-- What was there stands, but for one block. -/
structure KB1 (cb : Nat) (w w' : World) : Prop where
  os : w'.os = w.os
  tape : w'.tape = w.tape
  output : w'.output = w.output
  size : w.heap.size ≤ w'.heap.size
  block : ∀ g, g < w.heap.size → g ≠ cb → w'.heap[g]? = w.heap[g]?
theorem KB1.of_below {cb : Nat} {w w' : World} (h : Below w.heap.size w w') : KB1 cb w w' := ⟨h.os, h.tape, h.output, h.size, fun g hg _ => h.block g hg⟩
theorem KB1.trans {cb : Nat} {a b c : World} (h : KB1 cb a b) (k : KB1 cb b c) : KB1 cb a c := ⟨k.os.trans h.os, k.tape.trans h.tape, k.output.trans h.output, Nat.le_trans h.size k.size, fun g hg hn => (k.block g (Nat.lt_of_lt_of_le hg h.size) hn).trans (h.block g hg hn)⟩
theorem KB1.set {cb j : Nat} {w : World} (v : Value) : KB1 cb w (w.setCell ⟨cb, j, none⟩ v) := ⟨rfl, rfl, rfl, by simp [World.setCell], fun g _ hn => heap_set_ne v hn⟩
def CntAt (w : World) (cb : Nat) (n : Int) : Prop := w.heap[cb]? = some (.cells #[.int .i64 n, .int .i64 0] 121 (0, 0))
/-- A chain of frames over a literal. -/
def NdAt (w : World) : Nat → Value → Prop
  | 0, v => ∃ nb, v = .iface 97 (.pointer (some ⟨nb, 0, none⟩)) ∧ LitAt w nb
  | d + 1, v => ∃ nb kb kc x cur, v = .iface 91 (.pointer (some ⟨nb, 0, none⟩)) ∧ w.heap[nb]? = some (.cells #[.string ⟨#[98, 97, 115, 101, 46, 102, 114, 97, 109, 101]⟩, .int .i64 0, .string ⟨#[]⟩, .slice (some ⟨kb, 0, none⟩) 1 kc] 95 (0, 0)) ∧ w.heap[kb]? = some (.cells cur 44 (0, 0)) ∧ cur[0]? = some x ∧ NdAt w d x
theorem NdAt.keep {w w' : World} {cb : Nat} {n : Int} (hc : CntAt w cb n) (hk : ∀ g, g < w.heap.size → g ≠ cb → w'.heap[g]? = w.heap[g]?) : ∀ (d : Nat) (v : Value), NdAt w d v → NdAt w' d v
  | 0, v, h => by
    obtain ⟨nb, rfl, cs, h1, h2⟩ := h
    refine ⟨nb, rfl, cs, (hk nb (Array.getElem?_eq_some_iff.1 h1).1 (fun e => ?_)).trans h1, h2⟩
    subst e; unfold CntAt at hc; rw [hc] at h1; simp at h1
  | d + 1, v, h => by
    obtain ⟨nb, kb, kc, x, cur, rfl, h1, h2, h3, h4⟩ := h
    refine ⟨nb, kb, kc, x, cur, rfl, (hk nb (Array.getElem?_eq_some_iff.1 h1).1 (fun e => ?_)).trans h1, (hk kb (Array.getElem?_eq_some_iff.1 h2).1 (fun e => ?_)).trans h2, h3, NdAt.keep hc hk d x h4⟩
    · subst e; unfold CntAt at hc; rw [hc] at h1; simp at h1
    · subst e; unfold CntAt at hc; rw [hc] at h2; simp at h2
theorem NdAt.below {w w' : World} (hb : Below w.heap.size w w') : ∀ (d : Nat) (v : Value), NdAt w d v → NdAt w' d v
  | 0, v, h => by
    obtain ⟨nb, rfl, cs, h1, h2⟩ := h
    exact ⟨nb, rfl, cs, heap_keep h1 hb, h2⟩
  | d + 1, v, h => by
    obtain ⟨nb, kb, kc, x, cur, rfl, h1, h2, h3, h4⟩ := h
    exact ⟨nb, kb, kc, x, cur, rfl, heap_keep h1 hb, heap_keep h2 hb, h3, NdAt.below hb d x h4⟩
theorem LitAt.base {w : World} {nb : Nat} (h : LitAt w nb) : BaseAt w nb ⟨#[98, 97, 115, 101, 46, 117, 110, 105, 116]⟩ (.slice none 0 0) := by
  obtain ⟨cs, h1, h2, h3, h4, h5⟩ := h
  exact ⟨(heapcell h1 0).1.trans h2, (heapcell h1 1).1.trans h3, (heapcell h1 2).1.trans h4, (heapcell h1 3).1.trans h5⟩
def TreeE (ok : Bool) (e : Ending) : Prop := if ok then ∃ s la ln lc, e = .returned (.tuple #[.agg #[.string s, .int .i64 0, .string ⟨#[]⟩, .slice la ln lc], .bool true]) ∧ s.toList.isEmpty = false
  else e = .returned (.tuple #[.agg #[.string ⟨#[]⟩, .int .i64 0, .string ⟨#[]⟩, .slice none 0 0], .bool false])
def PlR (cb : Nat) (ok : Bool) (w : World) (e : Ending) (w' : World) : Prop := (∃ n, 0 ≤ n ∧ n ≤ 65 ∧ CntAt w' cb n) ∧ KB1 cb w w' ∧ TreeE ok e
end

section
open Go.RowKit
set_option maxRecDepth 100000
theorem CntAt.below {w w' : World} {cb : Nat} {n : Int} (h : CntAt w cb n) (hb : Below w.heap.size w w') : CntAt w' cb n := heap_keep h hb
theorem cnt_set {w : World} {cb : Nat} {n m : Int} (h : CntAt w cb n) : CntAt (w.setCell ⟨cb, 0, none⟩ (.int .i64 m)) cb m := heap_setA h _
theorem cnt_set1 {w : World} {cb : Nat} {n : Int} (h : CntAt w cb n) : CntAt (w.setCell ⟨cb, 1, none⟩ (.int .i64 0)) cb n := heap_setA h _
theorem base_set {w : World} {cb nb j : Nat} {k : ByteArray} {kv v : Value} (h : BaseAt w nb k kv) (hn : nb ≠ cb) : BaseAt (w.setCell ⟨cb, j, none⟩ v) nb k kv := by
  have e : ∀ i, (w.setCell ⟨cb, j, none⟩ v).cell? ⟨nb, i, none⟩ = w.cell? ⟨nb, i, none⟩ := fun i => World.cell?_of_block (w := w) (a := ⟨nb, i, none⟩) (heap_set_ne v hn)
  obtain ⟨h0, h1, h2, h3⟩ := h
  exact ⟨(e 0).trans h0, (e 1).trans h1, (e 2).trans h2, (e 3).trans h3⟩
theorem base_below {w w' : World} {nb : Nat} {k : ByteArray} {kv : Value} (h : BaseAt w nb k kv) (hb : Below w.heap.size w w') : BaseAt w' nb k kv := by
  obtain ⟨h0, h1, h2, h3⟩ := h
  exact ⟨cell_stepA h0 hb, cell_stepA h1 hb, cell_stepA h2 hb, cell_stepA h3 hb⟩
/-- A node's type: what its methods are. -/
structure NdTy (t : TypeId) : Prop where
  nText : ∀ (a : Addr) (w : World), (nilAhead 329 t (.pointer (some a)) "Text").run Try.prog w = .ok (some false) w
  mText : ∀ (a : Addr) (w : World), (method 329 t (.pointer (some a)) "Text").run Try.prog w = .ok (107, .pointer (some a)) w
  nKind : ∀ (a : Addr) (w : World), (nilAhead 329 t (.pointer (some a)) "Kind").run Try.prog w = .ok (some false) w
  mKind : ∀ (a : Addr) (w : World), (method 329 t (.pointer (some a)) "Kind").run Try.prog w = .ok (104, .pointer (some a)) w
  nNum : ∀ (a : Addr) (w : World), (nilAhead 329 t (.pointer (some a)) "Num").run Try.prog w = .ok (some false) w
  mNum : ∀ (a : Addr) (w : World), (method 329 t (.pointer (some a)) "Num").run Try.prog w = .ok (106, .pointer (some a)) w
  nLen : ∀ (a : Addr) (w : World), (nilAhead 329 t (.pointer (some a)) "Len").run Try.prog w = .ok (some false) w
  mLen : ∀ (a : Addr) (w : World), (method 329 t (.pointer (some a)) "Len").run Try.prog w = .ok (105, .pointer (some a)) w
  nKid : ∀ (a : Addr) (w : World), (nilAhead 329 t (.pointer (some a)) "Kid").run Try.prog w = .ok (some false) w
  mKid : ∀ (a : Addr) (w : World), (method 329 t (.pointer (some a)) "Kid").run Try.prog w = .ok (103, .pointer (some a)) w
theorem ty97 : NdTy 97 := ⟨nil_Text97, met_Text97, nil_Kind97, met_Kind97, nil_Num97, met_Num97, nil_Len97, met_Len97, nil_Kid97, met_Kid97⟩
theorem ty91 : NdTy 91 := ⟨nil_Text91, met_Text91, nil_Kind91, met_Kind91, nil_Num91, met_Num91, nil_Len91, met_Len91, nil_Kid91, met_Kid91⟩
/-- Where the walk stands behind the counting. -/
structure PlW (w : World) (R cb nb : Nat) (kk : ByteArray) (kv : Value) (k : Int) (wr : World) : Prop where
  c : CntAt wr cb k
  b : BaseAt wr nb kk kv
  r : wr.heap[R]? = some (.cells #[.string ⟨#[]⟩, .int .i64 0, .string ⟨#[]⟩, .slice none 0 0] 36 (0, 0))
  kb : KB1 cb w wr
  nr : R ≠ cb
  nb : w.heap.size ≤ R
theorem PlW.fill {w : World} {R cb nb : Nat} {kk : ByteArray} {kv : Value} {k : Int} {wr : World} (h : PlW w R cb nb kk kv k wr) (a b c d : Value) :
    ((((wr.setCell ⟨R, 0, none⟩ a).setCell ⟨R, 1, none⟩ b).setCell ⟨R, 2, none⟩ c).setCell ⟨R, 3, none⟩ d).heap[R]? = some (.cells #[a, b, c, d] 36 (0, 0)) ∧
    CntAt ((((wr.setCell ⟨R, 0, none⟩ a).setCell ⟨R, 1, none⟩ b).setCell ⟨R, 2, none⟩ c).setCell ⟨R, 3, none⟩ d) cb k ∧ KB1 cb w ((((wr.setCell ⟨R, 0, none⟩ a).setCell ⟨R, 1, none⟩ b).setCell ⟨R, 2, none⟩ c).setCell ⟨R, 3, none⟩ d) := by
  have hn : cb ≠ R := fun e => h.nr e.symm
  refine ⟨heap_setA (heap_setA (heap_setA (heap_setA h.r _) _) _) _, ?_, ⟨h.kb.os, h.kb.tape, h.kb.output, by have := h.kb.size; simpa [World.setCell] using this, fun g hg hne => ?_⟩⟩
  · unfold CntAt
    rw [heap_set_ne _ hn, heap_set_ne _ hn, heap_set_ne _ hn, heap_set_ne _ hn]
    exact h.c
  · have hg2 : g ≠ R := by have := h.nb; omega
    rw [heap_set_ne _ hg2, heap_set_ne _ hg2, heap_set_ne _ hg2, heap_set_ne _ hg2]
    exact h.kb.block g hg hne
set_option maxHeartbeats 2000000 in
/-- Too deep: none. -/
theorem plain_deep (t : TypeId) (ht : NdTy t) (w : World) (nb cb : Nat) (kk : ByteArray) (kv : Value) (hB : BaseAt w nb kk kv) (hc : CntAt w cb 64) (hne : nb ≠ cb) :
    Calls Try.prog 32 #[.iface t (.pointer (some ⟨nb, 0, none⟩)), .int .i64 65, .pointer (some ⟨cb, 0, none⟩)] w (PlR cb false w) := by
  have hcl : cb < w.heap.size := (Array.getElem?_eq_some_iff.1 hc).1
  have hb0 := alloc_below w (.cells #[.string ⟨#[]⟩, .int .i64 0, .string ⟨#[]⟩, .slice none 0 0] 36)
  have hr0 := heap_alloc_new w (.cells #[.string ⟨#[]⟩, .int .i64 0, .string ⟨#[]⟩, .slice none 0 0] 36)
  have hc0 := hc.below hb0
  have hB0 := base_below hB hb0
  have hne2 : w.heap.size ≠ cb := by omega
  have HN := Lib.hid hne
  obtain ⟨m1, m2, m3, m4, m5, m6, m7, m8, m9, m10⟩ := ht
  clear hne
  go_enter Try.func32, Try.ntmps32
  generalize hw0 : w.alloc (.cells #[.string ⟨#[]⟩, .int .i64 0, .string ⟨#[]⟩, .slice none 0 0] 36) = w0 at hb0 hr0 hc0 hB0
  obtain ⟨q0, g0⟩ := heapcell hc0 0
  obtain ⟨q1, g1⟩ := heapcell hc0 1
  have h1 : BaseAt (w0.setCell ⟨cb, 0, none⟩ (.int .i64 65)) nb kk kv := base_set hB0 HN.out
  have h1d : BaseAt ((w0.setCell ⟨cb, 0, none⟩ (.int .i64 65)).drew) nb kk kv := h1
  have HTX := Lib.hid (text_m _ nb kk kv h1d)
  have hW : PlW w w.heap.size cb nb kk kv 65 ((w0.setCell ⟨cb, 0, none⟩ (.int .i64 65)).setCell ⟨cb, 1, none⟩ (.int .i64 0)) :=
    ⟨cnt_set1 (cnt_set hc0), base_set h1 HN.out, by rw [heap_set_ne _ hne2, heap_set_ne _ hne2]; exact hr0, ((KB1.of_below hb0).trans (KB1.set _)).trans (KB1.set _), hne2, Nat.le_refl _⟩
  have HW := Lib.hid hW
  clear h1 h1d hW hc hB hb0 hr0 hc0 hB0
  go_wp2_with fail
  go_region_with (go_at_call 107; refine HTX.out.mono ?_; rintro e w' ⟨rfl, rfl⟩)
  all_goals
    obtain ⟨c0, f0⟩ := heapcell HW.out.c 0
    obtain ⟨c1, f1⟩ := heapcell HW.out.c 1
    obtain ⟨r0, e0⟩ := heapcell HW.out.r 0
    obtain ⟨r1, e1⟩ := heapcell HW.out.r 1
    obtain ⟨r2, e2⟩ := heapcell HW.out.r 2
    obtain ⟨r3, e3⟩ := heapcell HW.out.r 3
    clear q0 q1 g0 g1 HTX
    rw [show IntKind.i64.wrap 0 = 0 from by decide]
    generalize (w0.setCell ⟨cb, 0, none⟩ (.int .i64 65)).setCell ⟨cb, 1, none⟩ (.int .i64 0) = W1 at HW c0 f0 c1 f1 r0 e0 r1 e1 r2 e2 r3 e3 ⊢
    go_wp2_with fail
    have hz := HW.out.fill (.string ⟨#[]⟩) (.int .i64 0) (.string ⟨#[]⟩) (.slice none 0 0)
    generalize (((W1.setCell ⟨w.heap.size, 0, none⟩ (.string ⟨#[]⟩)).setCell ⟨w.heap.size, 1, none⟩ (.int .i64 0)).setCell ⟨w.heap.size, 2, none⟩ (.string ⟨#[]⟩)).setCell ⟨w.heap.size, 3, none⟩ (.slice none 0 0) = W2 at hz ⊢
    obtain ⟨z1, z2, z3⟩ := hz
    obtain ⟨p0, _⟩ := heapcell z1 0
    obtain ⟨p1, _⟩ := heapcell z1 1
    obtain ⟨p2, _⟩ := heapcell z1 2
    obtain ⟨p3, _⟩ := heapcell z1 3
    exact bodyPost_ret (v := .tuple #[.agg #[.string ⟨#[]⟩, .int .i64 0, .string ⟨#[]⟩, .slice none 0 0], .bool false]) (by simp [results, Try.results32, go_sem, p0, p1, p2, p3]) rfl ⟨⟨65, by omega, by omega, z2⟩, ⟨z3.os, z3.tape, z3.output, z3.size, z3.block⟩, rfl⟩
structure PlX (w : World) (R cb nb D : Nat) (kk : ByteArray) (kv kids : Value) (k : Int) (wr : World) : Prop where
  p : PlW w R cb nb kk kv k wr
  d : wr.heap[D]? = some (.cells #[.string kk, .int .i64 0, .string ⟨#[]⟩, kids] 36 (0, 0))
  dr : D ≠ R
  dc : D ≠ cb
  dn : w.heap.size ≤ D
theorem PlW.box {w : World} {R cb nb : Nat} {kk : ByteArray} {kv : Value} {k : Int} {wr : World} (h : PlW w R cb nb kk kv k wr) (kids : Value) :
    PlX w R cb nb wr.heap.size kk kv kids k (wr.alloc (.cells #[.string kk, .int .i64 0, .string ⟨#[]⟩, kids] 36)).drew := by
  have hb := alloc_below wr (.cells #[.string kk, .int .i64 0, .string ⟨#[]⟩, kids] 36)
  have hR := (Array.getElem?_eq_some_iff.1 h.r).1
  have hC := (Array.getElem?_eq_some_iff.1 h.c).1
  have k1 := h.kb.trans (KB1.of_below (cb := cb) hb)
  exact ⟨⟨h.c.below hb.drew, base_below h.b hb.drew, heap_keep h.r hb.drew, ⟨k1.os, k1.tape, k1.output, k1.size, k1.block⟩, h.nr, h.nb⟩, heap_alloc_new wr _, by omega, by omega, h.kb.size⟩
set_option maxHeartbeats 4000000 in
/-- A literal, not too deep. -/
theorem plain_lit (t : TypeId) (ht : NdTy t) (w : World) (nb cb : Nat) (kk : ByteArray) (k : Nat) (hk1 : 1 ≤ k) (hk : k ≤ 64) (hkk : kk.toList.isEmpty = false) (kv : Value) (hkv : kv = .slice none 0 0) (hB : BaseAt w nb kk kv) (hc : CntAt w cb ((k : Int) - 1)) (hne : nb ≠ cb) :
    Calls Try.prog 32 #[.iface t (.pointer (some ⟨nb, 0, none⟩)), .int .i64 k, .pointer (some ⟨cb, 0, none⟩)] w (PlR cb true w) := by
  have hcl : cb < w.heap.size := (Array.getElem?_eq_some_iff.1 hc).1
  have hb0 := alloc_below w (.cells #[.string ⟨#[]⟩, .int .i64 0, .string ⟨#[]⟩, .slice none 0 0] 36)
  have hr0 := heap_alloc_new w (.cells #[.string ⟨#[]⟩, .int .i64 0, .string ⟨#[]⟩, .slice none 0 0] 36)
  have hc0 := hc.below hb0
  have hB0 := base_below hB hb0
  have hne2 : w.heap.size ≠ cb := by omega
  have HN := Lib.hid hne
  obtain ⟨m1, m2, m3, m4, m5, m6, m7, m8, m9, m10⟩ := ht
  clear hne
  go_enter Try.func32, Try.ntmps32
  generalize hw0 : w.alloc (.cells #[.string ⟨#[]⟩, .int .i64 0, .string ⟨#[]⟩, .slice none 0 0] 36) = w0 at hb0 hr0 hc0 hB0
  obtain ⟨q0, g0⟩ := heapcell hc0 0
  obtain ⟨q1, g1⟩ := heapcell hc0 1
  have h1 : BaseAt (w0.setCell ⟨cb, 0, none⟩ (.int .i64 k)) nb kk kv := base_set hB0 HN.out
  have h1d : BaseAt ((w0.setCell ⟨cb, 0, none⟩ (.int .i64 k)).drew) nb kk kv := h1
  have HTX := Lib.hid (text_m _ nb kk kv h1d)
  have hW : PlW w w.heap.size cb nb kk kv k ((w0.setCell ⟨cb, 0, none⟩ (.int .i64 k)).setCell ⟨cb, 1, none⟩ (.int .i64 0)) :=
    ⟨cnt_set1 (cnt_set hc0), base_set h1 HN.out, by rw [heap_set_ne _ hne2, heap_set_ne _ hne2]; exact hr0, ((KB1.of_below hb0).trans (KB1.set _)).trans (KB1.set _), hne2, Nat.le_refl _⟩
  have HW := Lib.hid hW
  clear h1 h1d hW hc hB hb0 hr0 hc0 hB0
  go_wp2_with fail
  go_region_with (go_at_call 107; refine HTX.out.mono ?_; rintro e w' ⟨rfl, rfl⟩)
  all_goals
    obtain ⟨c0, f0⟩ := heapcell HW.out.c 0
    obtain ⟨c1, f1⟩ := heapcell HW.out.c 1
    clear q0 q1 g0 g1 HTX
    rw [show IntKind.i64.wrap 0 = 0 from by decide]
    generalize (w0.setCell ⟨cb, 0, none⟩ (.int .i64 k)).setCell ⟨cb, 1, none⟩ (.int .i64 0) = W1 at HW c0 f0 c1 f1 ⊢
    have HBd : Hid (BaseAt W1.drew nb kk kv) := Lib.hid HW.out.b
    have hkI : (k : Int) ≤ 64 := by omega
    have HKV := Lib.hid hkv
    have HKK := Lib.hid hkk
    clear hkv hkk
    go_wp2_with fail
    refine (kind_m _ nb kk kv HBd.out).mono ?_
    rintro e w' ⟨rfl, rfl⟩
    go_wp2_with fail
    refine (num_m _ nb kk kv HBd.out).mono ?_
    rintro e w' ⟨rfl, rfl⟩
    go_wp2_with fail
    refine (text_m _ nb kk kv HBd.out).mono ?_
    rintro e w' ⟨rfl, rfl⟩
    go_wp2_with fail
    have hX := HW.out.box (.slice none 0 0)
    have HD : Hid (W1.heap.size = W1.heap.size) := Lib.hid rfl
    generalize (W1.alloc (.cells #[.string kk, .int .i64 0, .string ⟨#[]⟩, .slice none 0 0] 36)).drew = W2 at hX ⊢
    generalize W1.heap.size = D at hX ⊢
    have HX := Lib.hid hX
    clear hX HBd c0 f0 c1 f1 HW HD
    refine (len_m _ nb kk none 0 0 (by have := HX.out.p.b; rw [HKV.out] at this; exact this)).mono ?_
    rintro e w' ⟨rfl, rfl⟩
    go_wp2_with fail
    go_loopw [55] (fun iv wr => iv = .int .i64 0 ∧ Hid (PlX w w.heap.size cb nb D kk kv (.slice none 0 0) k wr)) (fun _ _ => 0)
    case atStart => exact ⟨rfl, HX⟩
    case round =>
      obtain ⟨rfl, HX⟩ := hrel
      obtain ⟨d0, _⟩ := heapcell HX.out.d 0
      obtain ⟨d1, _⟩ := heapcell HX.out.d 1
      obtain ⟨d2, _⟩ := heapcell HX.out.d 2
      obtain ⟨d3, _⟩ := heapcell HX.out.d 3
      obtain ⟨r0, e0⟩ := heapcell HX.out.p.r 0
      obtain ⟨r1, e1⟩ := heapcell HX.out.p.r 1
      obtain ⟨r2, e2⟩ := heapcell HX.out.p.r 2
      obtain ⟨r3, e3⟩ := heapcell HX.out.p.r 3
      go_wp2_with fail
      have hz := HX.out.p.fill (.string kk) (.int .i64 0) (.string ⟨#[]⟩) (.slice none 0 0)
      generalize (((wr.setCell ⟨w.heap.size, 0, none⟩ (.string kk)).setCell ⟨w.heap.size, 1, none⟩ (.int .i64 0)).setCell ⟨w.heap.size, 2, none⟩ (.string ⟨#[]⟩)).setCell ⟨w.heap.size, 3, none⟩ (.slice none 0 0) = W3 at hz ⊢
      obtain ⟨z1, z2, z3⟩ := hz
      obtain ⟨p0, _⟩ := heapcell z1 0
      obtain ⟨p1, _⟩ := heapcell z1 1
      obtain ⟨p2, _⟩ := heapcell z1 2
      obtain ⟨p3, _⟩ := heapcell z1 3
      exact bodyPost_ret (v := .tuple #[.agg #[.string kk, .int .i64 0, .string ⟨#[]⟩, .slice none 0 0], .bool true]) (by simp [results, Try.results32, go_sem, p0, p1, p2, p3]) rfl ⟨⟨k, by omega, by omega, z2⟩, ⟨z3.os, z3.tape, z3.output, z3.size, z3.block⟩, ⟨_, _, _, _, rfl, HKK.out⟩⟩
end

section
open Go.RowKit
set_option maxRecDepth 100000
theorem info36 : (Try.prog.info? 36).map (fun i => (i.zero, i.size, i.bytes)) = some (some (.agg #[.string ⟨#[]⟩, .int .i64 0, .string ⟨#[]⟩, .slice none 0 0]), 4, 64) := by kernel_rfl
theorem four_new (w : World) (a b c d : Value) (t : TypeId) : ∀ j u, [a, b, c, d][j]? = some u → (w.alloc (.cells #[a, b, c, d] t)).cell? ((⟨w.heap.size, 0, none⟩ : Addr).add j) = some u := by
  intro j u hu
  rw [show (⟨w.heap.size, 0, none⟩ : Addr).add j = ⟨w.heap.size, j, none⟩ from by unfold Addr.add; split <;> simp_all]
  rw [(heapcell (heap_alloc_new w _) j).1]
  simpa using hu
theorem PlX.keep {w : World} {R cb nb D : Nat} {kk : ByteArray} {kv kids : Value} {k n : Int} {wr w' : World} (h : PlX w R cb nb D kk kv kids k wr) (hn : nb ≠ cb) (hc : CntAt w' cb n) (hk : KB1 cb wr w') : PlX w R cb nb D kk kv kids n w' := by
  have hR := (Array.getElem?_eq_some_iff.1 h.p.r).1
  have hD := (Array.getElem?_eq_some_iff.1 h.d).1
  have hb : ∀ j v, wr.cell? ⟨nb, j, none⟩ = some v → w'.cell? ⟨nb, j, none⟩ = some v := fun j v hv => by
    have hl := World.block_lt_of_cell? wr _ hv
    exact (World.cell?_of_block (w := wr) (w' := w') (a := ⟨nb, j, none⟩) (hk.block nb hl hn)).trans hv
  obtain ⟨b0, b1, b2, b3⟩ := h.p.b
  exact ⟨⟨hc, ⟨hb 0 _ b0, hb 1 _ b1, hb 2 _ b2, hb 3 _ b3⟩, (hk.block R hR h.p.nr).trans h.p.r, h.p.kb.trans hk, h.p.nr, h.p.nb⟩, (hk.block D hD h.dc).trans h.d, h.dr, h.dc, h.dn⟩
theorem PlW.box' {w : World} {R cb nb : Nat} {kk : ByteArray} {kv : Value} {k : Int} {wr : World} (h : PlW w R cb nb kk kv k wr) (kids : Value) :
    PlX w R cb nb wr.heap.size kk kv kids k (wr.alloc (.cells #[.string kk, .int .i64 0, .string ⟨#[]⟩, kids] 36)) := by
  have g := h.box kids
  exact ⟨⟨g.p.c, g.p.b, g.p.r, ⟨g.p.kb.os, g.p.kb.tape, g.p.kb.output, g.p.kb.size, g.p.kb.block⟩, g.p.nr, g.p.nb⟩, g.d, g.dr, g.dc, g.dn⟩
theorem PlX.below {w : World} {R cb nb D : Nat} {kk : ByteArray} {kv kids : Value} {k : Int} {wr w' : World} (h : PlX w R cb nb D kk kv kids k wr) (hn : nb ≠ cb) (hb : Below wr.heap.size wr w') : PlX w R cb nb D kk kv kids k w' :=
  h.keep hn (h.p.c.below hb) (KB1.of_below hb)
theorem PlX.push {w : World} {R cb nb D : Nat} {kk : ByteArray} {kv kids kids' : Value} {k : Int} {wr w1 w2 : World} (h : PlX w R cb nb D kk kv kids k wr) (hn : nb ≠ cb) (hnd : nb ≠ D) (hb : Below wr.heap.size wr w1) (hg : w1.grownBy w2 none) :
    PlX w R cb nb D kk kv kids' k (w2.setCell ⟨D, 3, none⟩ kids') := by
  have h2 : Below wr.heap.size wr w2 := hb.grown hg hb.size (fun k e => by cases e)
  have h' := h.below hn h2
  have hD := (Array.getElem?_eq_some_iff.1 h'.d).1
  have e : ∀ j, (w2.setCell ⟨D, 3, none⟩ kids').cell? ⟨nb, j, none⟩ = w2.cell? ⟨nb, j, none⟩ := fun j => World.cell?_of_block (w := w2) (a := ⟨nb, j, none⟩) (heap_set_ne _ hnd)
  obtain ⟨b0, b1, b2, b3⟩ := h'.p.b
  have hdc : cb ≠ D := fun e => h'.dc e.symm
  have hdr : R ≠ D := fun e => h'.dr e.symm
  refine ⟨⟨?_, ⟨(e 0).trans b0, (e 1).trans b1, (e 2).trans b2, (e 3).trans b3⟩, (heap_set_ne _ hdr).trans h'.p.r, ⟨h'.p.kb.os, h'.p.kb.tape, h'.p.kb.output, by have := h'.p.kb.size; simpa [World.setCell] using this, fun g hg hgn => ?_⟩, h'.p.nr, h'.p.nb⟩, heap_setA h'.d _, h'.dr, h'.dc, h'.dn⟩
  · unfold CntAt
    rw [heap_set_ne _ hdc]
    exact h'.p.c
  · rw [heap_set_ne _ (by have := h'.dn; omega)]
    exact h'.p.kb.block g hg hgn
set_option maxHeartbeats 8000000 in
/-- A frame of one kid, not too deep. -/
theorem plain_frame (t : TypeId) (ht : NdTy t) (w : World) (nb cb kb kc d : Nat) (kk : ByteArray) (k : Nat) (hk1 : 1 ≤ k) (hk : k ≤ 64) (hkk : kk.toList.isEmpty = false) (kv x : Value) (hkv : kv = .slice (some ⟨kb, 0, none⟩) 1 kc) (hB : BaseAt w nb kk kv)
    (hkc : ∀ w', KB1 cb w w' → w'.cell? ⟨kb, 0, none⟩ = some x) (hnd : ∀ w', KB1 cb w w' → NdAt w' d x) (hxf : ∃ tt u, x = .iface tt u) (ok : Bool) (hrec : ∀ W, CntAt W cb k → NdAt W d x → Calls Try.prog 32 #[x, .int .i64 ((k : Int) + 1), .pointer (some ⟨cb, 0, none⟩)] W (PlR cb ok W))
    (hc : CntAt w cb ((k : Int) - 1)) (hne : nb ≠ cb) (hnl : nb < w.heap.size) :
    Calls Try.prog 32 #[.iface t (.pointer (some ⟨nb, 0, none⟩)), .int .i64 k, .pointer (some ⟨cb, 0, none⟩)] w (PlR cb ok w) := by
  obtain ⟨i36, hi36, hy0, hy1, hy2⟩ := info_parts info36
  have HI := Lib.hid (And.intro hi36 (And.intro hy0 (And.intro hy1 hy2)))
  clear hi36 hy0 hy1 hy2
  obtain ⟨tt, xu, rfl⟩ := hxf
  have HKC := Lib.hid hkc
  have HND := Lib.hid hnd
  have HREC := Lib.hid hrec
  clear hkc hnd hrec
  have hcl : cb < w.heap.size := (Array.getElem?_eq_some_iff.1 hc).1
  have hb0 := alloc_below w (.cells #[.string ⟨#[]⟩, .int .i64 0, .string ⟨#[]⟩, .slice none 0 0] 36)
  have hr0 := heap_alloc_new w (.cells #[.string ⟨#[]⟩, .int .i64 0, .string ⟨#[]⟩, .slice none 0 0] 36)
  have hc0 := hc.below hb0
  have hB0 := base_below hB hb0
  have hne2 : w.heap.size ≠ cb := by omega
  have HN := Lib.hid hne
  obtain ⟨m1, m2, m3, m4, m5, m6, m7, m8, m9, m10⟩ := ht
  clear hne
  go_enter Try.func32, Try.ntmps32
  generalize hw0 : w.alloc (.cells #[.string ⟨#[]⟩, .int .i64 0, .string ⟨#[]⟩, .slice none 0 0] 36) = w0 at hb0 hr0 hc0 hB0
  obtain ⟨q0, g0⟩ := heapcell hc0 0
  obtain ⟨q1, g1⟩ := heapcell hc0 1
  have h1 : BaseAt (w0.setCell ⟨cb, 0, none⟩ (.int .i64 k)) nb kk kv := base_set hB0 HN.out
  have h1d : BaseAt ((w0.setCell ⟨cb, 0, none⟩ (.int .i64 k)).drew) nb kk kv := h1
  have HTX := Lib.hid (text_m _ nb kk kv h1d)
  have hW : PlW w w.heap.size cb nb kk kv k ((w0.setCell ⟨cb, 0, none⟩ (.int .i64 k)).setCell ⟨cb, 1, none⟩ (.int .i64 0)) :=
    ⟨cnt_set1 (cnt_set hc0), base_set h1 HN.out, by rw [heap_set_ne _ hne2, heap_set_ne _ hne2]; exact hr0, ((KB1.of_below hb0).trans (KB1.set _)).trans (KB1.set _), hne2, Nat.le_refl _⟩
  have HW := Lib.hid hW
  clear h1 h1d hW hc hB hb0 hr0 hc0 hB0
  go_wp2_with fail
  go_cut [] from 12 to 28 (fun wx => Hid (PlW w w.heap.size cb nb kk kv k wx))
  case first =>
    go_region_with (go_at_call 107; refine HTX.out.mono ?_; rintro e w' ⟨rfl, rfl⟩)
    all_goals
      rw [show IntKind.i64.wrap 0 = 0 from by decide]
      have HWd : Hid (PlW w w.heap.size cb nb kk kv k ((w0.setCell ⟨cb, 0, none⟩ (.int .i64 k)).setCell ⟨cb, 1, none⟩ (.int .i64 0)).drew) := Lib.hid ⟨HW.out.c, HW.out.b, HW.out.r, ⟨HW.out.kb.os, HW.out.kb.tape, HW.out.kb.output, HW.out.kb.size, HW.out.kb.block⟩, HW.out.nr, HW.out.nb⟩
      go_wp2_with fail
      go_meet
      exact HWd
  case rest =>
    have HW2 := hcut
    clear q0 q1 g0 g1 HTX HW
    obtain ⟨c0, f0⟩ := heapcell HW2.out.c 0
    obtain ⟨c1, f1⟩ := heapcell HW2.out.c 1
    have HBd : Hid (BaseAt wc nb kk kv) := Lib.hid HW2.out.b
    have hkI : (k : Int) ≤ 64 := by omega
    have HKV := Lib.hid hkv
    have HKK := Lib.hid hkk
    clear hkv hkk
    go_wp2_with fail
    refine (kind_m _ nb kk kv HBd.out).mono ?_
    rintro e w' ⟨rfl, hw'⟩
    obtain rfl := hw'.symm
    go_wp2_with fail
    refine (num_m _ nb kk kv HBd.out).mono ?_
    rintro e w' ⟨rfl, hw'⟩
    obtain rfl := hw'.symm
    go_wp2_with fail
    refine (text_m _ nb kk kv HBd.out).mono ?_
    rintro e w' ⟨rfl, hw'⟩
    obtain rfl := hw'.symm
    go_wp2_with fail
    have hX := HW2.out.box' (.slice none 0 0)
    generalize (wc.alloc (.cells #[.string kk, .int .i64 0, .string ⟨#[]⟩, .slice none 0 0] 36)) = W2 at hX ⊢
    generalize wc.heap.size = D at hX ⊢
    have HX := Lib.hid hX
    clear hX HBd c0 f0 c1 f1 HW2
    refine (len_m _ nb kk (some ⟨kb, 0, none⟩) 1 kc (by have := HX.out.p.b; rw [HKV.out] at this; exact this)).mono ?_
    rintro e w' ⟨rfl, hw'⟩
    obtain rfl := hw'.symm
    go_wp2_with fail
    go_loopw [55] (fun iv wr => ∃ (z : Int) (kids : Value) (n : Int), iv = .int .i64 z ∧ 0 ≤ n ∧ n ≤ 65 ∧ Hid (PlX w w.heap.size cb nb D kk kv kids n wr) ∧ Hid ((z = 0 ∧ kids = .slice none 0 0 ∧ n = k) ∨ (z = 1 ∧ ok = true ∧ ∃ la ln lc, kids = .slice la ln lc))) (fun iv _ => 1 - (intOf iv).toNat)
    case atStart => exact ⟨0, _, k, rfl, by omega, by omega, HX, Lib.hid (.inl ⟨rfl, rfl, rfl⟩)⟩
    case round =>
      obtain ⟨z, kids, n, rfl, hn0, hn1, HX, hz⟩ := hrel
      rcases hz.out with ⟨rfl, rfl, rfl⟩ | ⟨rfl, hok, la, ln, lc, rfl⟩
      · clear hz
        go_wp2_with fail
        refine (kid_m _ nb kk kb kc (.iface tt xu) (by have := HX.out.p.b; rw [HKV.out] at this; exact this) (HKC.out _ HX.out.p.kb)).mono ?_
        rintro e w' ⟨rfl, rfl⟩
        go_wp2_with fail
        refine (HREC.out _ HX.out.p.c (HND.out _ HX.out.p.kb)).mono ?_
        rintro e w3 ⟨⟨n3, hn30, hn31, hc3⟩, hk3, hT⟩
        have HX3 := Lib.hid (HX.out.keep HN.out hc3 hk3)
        clear hc3 hk3 HX
        obtain ⟨r0, e0⟩ := heapcell HX3.out.p.r 0
        obtain ⟨r1, e1⟩ := heapcell HX3.out.p.r 1
        obtain ⟨r2, e2⟩ := heapcell HX3.out.p.r 2
        obtain ⟨r3, e3⟩ := heapcell HX3.out.p.r 3
        obtain ⟨d3, q3⟩ := heapcell HX3.out.d 3
        have hRl : w.heap.size < w3.heap.size := (Array.getElem?_eq_some_iff.1 HX3.out.p.r).1
        have hDl : D < w3.heap.size := (Array.getElem?_eq_some_iff.1 HX3.out.d).1
        cases ok
        · obtain rfl : e = .returned (.tuple #[.agg #[.string ⟨#[]⟩, .int .i64 0, .string ⟨#[]⟩, .slice none 0 0], .bool false]) := hT
          go_wp2_with fail
          have hz := HX3.out.p.fill (.string ⟨#[]⟩) (.int .i64 0) (.string ⟨#[]⟩) (.slice none 0 0)
          generalize (((w3.setCell ⟨w.heap.size, 0, none⟩ (.string ⟨#[]⟩)).setCell ⟨w.heap.size, 1, none⟩ (.int .i64 0)).setCell ⟨w.heap.size, 2, none⟩ (.string ⟨#[]⟩)).setCell ⟨w.heap.size, 3, none⟩ (.slice none 0 0) = W5 at hz ⊢
          have hz : (W5.alloc (.cells #[.string ⟨#[]⟩, .int .i64 0, .string ⟨#[]⟩, .slice none 0 0] 36)).heap[w.heap.size]? = some (.cells #[.string ⟨#[]⟩, .int .i64 0, .string ⟨#[]⟩, .slice none 0 0] 36 (0, 0)) ∧ CntAt (W5.alloc (.cells #[.string ⟨#[]⟩, .int .i64 0, .string ⟨#[]⟩, .slice none 0 0] 36)) cb n3 ∧ KB1 cb w (W5.alloc (.cells #[.string ⟨#[]⟩, .int .i64 0, .string ⟨#[]⟩, .slice none 0 0] 36)) :=
            ⟨heap_keep hz.1 (alloc_below W5 _), hz.2.1.below (alloc_below W5 _), hz.2.2.trans (KB1.of_below (alloc_below W5 _))⟩
          generalize W5.alloc (.cells #[.string ⟨#[]⟩, .int .i64 0, .string ⟨#[]⟩, .slice none 0 0] 36) = W6 at hz ⊢
          obtain ⟨z1, z2, z3⟩ := hz
          obtain ⟨p0, _⟩ := heapcell z1 0
          obtain ⟨p1, _⟩ := heapcell z1 1
          obtain ⟨p2, _⟩ := heapcell z1 2
          obtain ⟨p3, _⟩ := heapcell z1 3
          exact bodyPost_ret (v := .tuple #[.agg #[.string ⟨#[]⟩, .int .i64 0, .string ⟨#[]⟩, .slice none 0 0], .bool false]) (by simp [results, Try.results32, go_sem, p0, p1, p2, p3]) rfl ⟨⟨n3, hn30, hn31, z2⟩, ⟨z3.os, z3.tape, z3.output, z3.size, z3.block⟩, rfl⟩
        · obtain ⟨s, la, ln, lc, rfl, _⟩ : ∃ s la ln lc, e = .returned (.tuple #[.agg #[.string s, .int .i64 0, .string ⟨#[]⟩, .slice la ln lc], .bool true]) ∧ s.toList.isEmpty = false := hT
          go_upto_region 12 with fail
          have hb4 := alloc_below w3 (.cells #[.string s, .int .i64 0, .string ⟨#[]⟩, .slice la ln lc] 36)
          have hm4 := heap_alloc_new w3 (.cells #[.string s, .int .i64 0, .string ⟨#[]⟩, .slice la ln lc] 36)
          have HX4 := Lib.hid (HX3.out.below HN.out hb4)
          generalize w3.alloc (.cells #[.string s, .int .i64 0, .string ⟨#[]⟩, .slice la ln lc] 36) = W4 at hb4 hm4 HX4 ⊢
          generalize w3.heap.size = M at hm4 ⊢
          obtain ⟨m0, _⟩ := heapcell hm4 0
          obtain ⟨m1', _⟩ := heapcell hm4 1
          obtain ⟨m2', _⟩ := heapcell hm4 2
          obtain ⟨m3', _⟩ := heapcell hm4 3
          obtain ⟨d3, q3⟩ := heapcell HX4.out.d 3
          clear r0 r1 r2 r3 e0 e1 e2 e3 hRl hDl hb4 hm4
          go_wp2_with (at_builtin; refine wpList_append_own_at _ rfl _ _ 34 rfl W4.heap.size 36 i36 (.agg #[.string ⟨#[]⟩, .int .i64 0, .string ⟨#[]⟩, .slice none 0 0]) 4 64 Try.underlying34 HI.out.1 HI.out.2.1 HI.out.2.2.1 HI.out.2.2.2 rfl (by decide) _ _ _ rfl (⟨rfl, .inl ⟨rfl, rfl⟩⟩ : World.ownsRow _ W4.heap.size 36 4 (.slice none 0 0) 0 []) ⟨W4.heap.size, 0, none⟩ 1 1 [.string s, .int .i64 0, .string ⟨#[]⟩, .slice la ln lc] rfl rfl ?c1 ?c2 ?c3 ?c4 ?c5 ?_)
          case c1 => exact four_new _ _ _ _ _ _
          case c2 => intro u hu; simp at hu; rcases hu with rfl | rfl | rfl | rfl <;> rfl
          case c3 => unfold maxLen; omega
          case c4 => omega
          case c5 => simp
          intro kv' w5 hown hgrow _ hblk
          obtain ⟨ka, kc', rfl⟩ := own_slice hown
          have hnd : nb ≠ D := by have := HX4.out.dn; omega
          have HP := Lib.hid (HX4.out.push (kids' := .slice ka (0 + 1) kc') HN.out hnd (alloc_below W4 _) hgrow)
          have hd5 : w5.heap[D]? = some (.cells #[.string kk, .int .i64 0, .string ⟨#[]⟩, .slice none 0 0] 36 (0, 0)) := by
            have hl := (Array.getElem?_eq_some_iff.1 HX4.out.d).1
            rw [hgrow.block D (by simp; omega) (fun e => by cases e), Below.heap_alloc _ _ _ hl]
            exact HX4.out.d
          obtain ⟨x3, y3⟩ := heapcell hd5 3
          clear hown hgrow hblk hd5
          go_wp2_with fail
          go_roundw
          case rel => exact ⟨1, _, n3, by go_num, hn30, hn31, HP, Lib.hid (.inr ⟨rfl, (by first | trivial | rfl), _, _, _, rfl⟩)⟩
          case measure => simp [intOf]
      · clear hz
        obtain ⟨d0, _⟩ := heapcell HX.out.d 0
        obtain ⟨d1, _⟩ := heapcell HX.out.d 1
        obtain ⟨d2, _⟩ := heapcell HX.out.d 2
        obtain ⟨d3, _⟩ := heapcell HX.out.d 3
        obtain ⟨r0, e0⟩ := heapcell HX.out.p.r 0
        obtain ⟨r1, e1⟩ := heapcell HX.out.p.r 1
        obtain ⟨r2, e2⟩ := heapcell HX.out.p.r 2
        obtain ⟨r3, e3⟩ := heapcell HX.out.p.r 3
        go_wp2_with fail
        have hz := HX.out.p.fill (.string kk) (.int .i64 0) (.string ⟨#[]⟩) (.slice la ln lc)
        generalize (((wr.setCell ⟨w.heap.size, 0, none⟩ (.string kk)).setCell ⟨w.heap.size, 1, none⟩ (.int .i64 0)).setCell ⟨w.heap.size, 2, none⟩ (.string ⟨#[]⟩)).setCell ⟨w.heap.size, 3, none⟩ (.slice la ln lc) = W5 at hz ⊢
        obtain ⟨z1, z2, z3⟩ := hz
        obtain ⟨p0, _⟩ := heapcell z1 0
        obtain ⟨p1, _⟩ := heapcell z1 1
        obtain ⟨p2, _⟩ := heapcell z1 2
        obtain ⟨p3, _⟩ := heapcell z1 3
        subst hok
        exact bodyPost_ret (v := .tuple #[.agg #[.string kk, .int .i64 0, .string ⟨#[]⟩, .slice la ln lc], .bool true]) (by simp [results, Try.results32, go_sem, p0, p1, p2, p3]) rfl ⟨⟨n, hn0, hn1, z2⟩, ⟨z3.os, z3.tape, z3.output, z3.size, z3.block⟩, ⟨_, _, _, _, rfl, HKK.out⟩⟩
end

section
open Go.RowKit
set_option maxRecDepth 100000
theorem NdAt.form {w : World} : ∀ {d : Nat} {v : Value}, NdAt w d v → ∃ t u, v = .iface t u
  | 0, v, h => by obtain ⟨nb, e, _⟩ := h; exact ⟨_, _, e⟩
  | d + 1, v, h => by obtain ⟨nb, kb, kc, x, cur, e, _⟩ := h; exact ⟨_, _, e⟩
theorem plain_any : ∀ (d : Nat) (w : World) (v : Value) (cb k : Nat), CntAt w cb ((k : Int) - 1) → NdAt w d v → 1 ≤ k → k ≤ 65 → Calls Try.prog 32 #[v, .int .i64 k, .pointer (some ⟨cb, 0, none⟩)] w (PlR cb (decide (k + d ≤ 64)) w)
  | 0, w, v, cb, k, hc, hn, hk1, hk2 => by
    obtain ⟨nb, rfl, hl⟩ := hn
    have hne : nb ≠ cb := fun e => by
      subst e
      obtain ⟨cs, h1, _⟩ := hl
      unfold CntAt at hc
      rw [hc] at h1; simp at h1
    by_cases h65 : k = 65
    · subst h65
      exact plain_deep 97 ty97 w nb cb _ _ hl.base hc hne
    · rw [decide_eq_true (by omega)]
      exact plain_lit 97 ty97 w nb cb ⟨#[98, 97, 115, 101, 46, 117, 110, 105, 116]⟩ k hk1 (by omega) (by rw [ByteArray.toList_eq]; rfl) _ rfl hl.base hc hne
  | d + 1, w, v, cb, k, hc, hn, hk1, hk2 => by
    obtain ⟨nb, kb, kc, x, cur, rfl, h1, h2, h3, h4⟩ := hn
    have hne : nb ≠ cb := fun e => by
      subst e
      unfold CntAt at hc
      rw [hc] at h1; simp at h1
    have hne2 : kb ≠ cb := fun e => by
      subst e
      unfold CntAt at hc
      rw [hc] at h2; simp at h2
    have hB : BaseAt w nb ⟨#[98, 97, 115, 101, 46, 102, 114, 97, 109, 101]⟩ (.slice (some ⟨kb, 0, none⟩) 1 kc) := ⟨(heapcell h1 0).1, (heapcell h1 1).1, (heapcell h1 2).1, (heapcell h1 3).1⟩
    by_cases h65 : k = 65
    · subst h65
      rw [decide_eq_false (by omega)]
      exact plain_deep 91 ty91 w nb cb _ _ hB hc hne
    · have hok : decide (k + (d + 1) ≤ 64) = decide (k + 1 + d ≤ 64) := by
        rw [Nat.add_assoc, Nat.add_comm d 1]
      rw [hok]
      refine plain_frame 91 ty91 w nb cb kb kc d ⟨#[98, 97, 115, 101, 46, 102, 114, 97, 109, 101]⟩ k hk1 (by omega) (by rw [ByteArray.toList_eq]; rfl) _ x rfl hB (fun w' hk => ?_) (fun w' hk => NdAt.keep hc hk.block d x h4) h4.form _ (fun W hcW hnW => ?_) hc hne (Array.getElem?_eq_some_iff.1 h1).1
      · rw [(heapcell ((hk.block kb (Array.getElem?_eq_some_iff.1 h2).1 hne2).trans h2) 0).1]
        exact h3
      · exact plain_any d W x cb (k + 1) (by rw [show (((k + 1 : Nat) : Int) - 1) = (k : Int) from by omega]; exact hcW) hnW (by omega) (by omega)
def PlainE (ok : Bool) (w : World) (e : Ending) (w' : World) : Prop := if ok then ∃ s la ln lc, e = .returned (.tuple #[.agg #[.string s, .int .i64 0, .string ⟨#[]⟩, .slice la ln lc], .nilIface]) ∧ s.toList.isEmpty = false
  else ∃ b, e = .returned (.tuple #[.agg #[.string ⟨#[]⟩, .int .i64 0, .string ⟨#[]⟩, .slice none 0 0], .iface 139 (.pointer (some ⟨b, 0, none⟩))]) ∧ w'.heap[b]? = some (.cells #[.int .i64 2] 141 (0, 0)) ∧ w.heap.size ≤ b
set_option maxHeartbeats 4000000 in
theorem plainH_any (w : World) (hb d : Nat) (t : TypeId) (u : Value) (hh : HdAt w hb t u) (hn : NdAt w d (.iface t u)) (ok : Bool) (hok : ok = decide (1 + d ≤ 64)) : Calls Try.prog 14 #[.pointer (some ⟨hb, 0, none⟩)] w fun e w' => PlainE ok w e w' ∧ Below w.heap.size w w' := by
  have hb0 := alloc_below w (.cells #[.string ⟨#[]⟩, .int .i64 0, .string ⟨#[]⟩, .slice none 0 0] 36)
  have hr0 := heap_alloc_new w (.cells #[.string ⟨#[]⟩, .int .i64 0, .string ⟨#[]⟩, .slice none 0 0] 36)
  have hh0 : HdAt (w.alloc (.cells #[.string ⟨#[]⟩, .int .i64 0, .string ⟨#[]⟩, .slice none 0 0] 36)) hb t u := heap_keep hh hb0
  have HND := Lib.hid (NdAt.below hb0 d _ hn)
  clear hn
  go_enter Try.func14, Try.ntmps14
  go_wp2_with fail
  generalize w.alloc (.cells #[.string ⟨#[]⟩, .int .i64 0, .string ⟨#[]⟩, .slice none 0 0] 36) = w0 at hb0 hr0 hh0 HND ⊢
  obtain ⟨R, hR⟩ : ∃ R, R = w.heap.size := ⟨_, rfl⟩
  rw [← hR] at hr0 ⊢
  have HR := Lib.hid hR
  clear hR
  refine (holds_any w0 hb t u hh0).mono ?_
  rintro e w' ⟨rfl, hw'⟩
  obtain rfl := hw'.symm
  obtain ⟨h0, _⟩ := heapcell hh0 0
  have HH0 := Lib.hid hh0
  have HB0 := Lib.hid hb0
  have HR0 := Lib.hid hr0
  clear hh0 hb0 hr0
  go_wp2_with fail
  have hb1 := alloc_below w0 (.cells #[.int .i64 0, .int .i64 0] 121)
  have hc1 : CntAt (w0.alloc (.cells #[.int .i64 0, .int .i64 0] 121)) w0.heap.size (((1 : Nat) : Int) - 1) := heap_alloc_new w0 (.cells #[.int .i64 0, .int .i64 0] 121)
  have hP := plain_any d _ _ w0.heap.size 1 hc1 (NdAt.below hb1 d _ HND.out) (by omega) (by omega)
  rw [← hok] at hP
  have HP := Lib.hid hP
  have HB1 := Lib.hid (HB0.out.trans (hb1.mono HB0.out.size))
  have HR1 := Lib.hid (heap_keep HR0.out hb1)
  have HS := Lib.hid (HB0.out.size)
  have hRl : Hid (R < w0.heap.size) := Lib.hid (Array.getElem?_eq_some_iff.1 HR0.out).1
  clear hP hc1 hb1 hok
  refine HP.out.mono ?_
  rintro e w2 ⟨⟨n, _, _, _⟩, hk, hT⟩
  have hb2 : Below w.heap.size w w2 := ⟨hk.os.trans HB1.out.os, hk.tape.trans HB1.out.tape, hk.output.trans HB1.out.output, Nat.le_trans HB1.out.size hk.size, fun g hg => by
    have h1 := HB1.out.size
    have h2 := HS.out
    exact (hk.block g (by omega) (by omega)).trans (HB1.out.block g hg)⟩
  have hr2 := (hk.block R (by have := hRl.out; simp; omega) (by have := hRl.out; omega)).trans HR1.out
  have HB2 := Lib.hid hb2
  have HR2 := Lib.hid hr2
  clear hk hb2 hr2 HP h0
  obtain ⟨r0, e0⟩ := heapcell HR2.out 0
  obtain ⟨r1, e1⟩ := heapcell HR2.out 1
  obtain ⟨r2, e2⟩ := heapcell HR2.out 2
  obtain ⟨r3, e3⟩ := heapcell HR2.out 3
  have hR2 : R < w2.heap.size := (Array.getElem?_eq_some_iff.1 HR2.out).1
  cases ok
  · obtain rfl : e = .returned (.tuple #[.agg #[.string ⟨#[]⟩, .int .i64 0, .string ⟨#[]⟩, .slice none 0 0], .bool false]) := hT
    go_wp2_with fail
    refine (new_any _ 2 (by decide)).mono ?_
    rintro e w3 ⟨rfl, rfl⟩
    go_wp2_with fail
    have hz : ((((w2.setCell ⟨R, 0, none⟩ (.string ⟨#[]⟩)).setCell ⟨R, 1, none⟩ (.int .i64 0)).setCell ⟨R, 2, none⟩ (.string ⟨#[]⟩)).setCell ⟨R, 3, none⟩ (.slice none 0 0)).heap[R]? = some (.cells #[.string ⟨#[]⟩, .int .i64 0, .string ⟨#[]⟩, .slice none 0 0] 36 (0, 0)) := heap_setA (heap_setA (heap_setA (heap_setA HR2.out _) _) _) _
    have hb : Below w.heap.size w ((((w2.setCell ⟨R, 0, none⟩ (.string ⟨#[]⟩)).setCell ⟨R, 1, none⟩ (.int .i64 0)).setCell ⟨R, 2, none⟩ (.string ⟨#[]⟩)).setCell ⟨R, 3, none⟩ (.slice none 0 0)) :=
      (((HB2.out.setCell (Nat.le_of_eq HR.out.symm) _).setCell (Nat.le_of_eq HR.out.symm) _).setCell (Nat.le_of_eq HR.out.symm) _).setCell (Nat.le_of_eq HR.out.symm) _
    have hs : ((((w2.setCell ⟨R, 0, none⟩ (.string ⟨#[]⟩)).setCell ⟨R, 1, none⟩ (.int .i64 0)).setCell ⟨R, 2, none⟩ (.string ⟨#[]⟩)).setCell ⟨R, 3, none⟩ (.slice none 0 0)).heap.size = w2.heap.size := by simp [World.setCell]
    generalize (((w2.setCell ⟨R, 0, none⟩ (.string ⟨#[]⟩)).setCell ⟨R, 1, none⟩ (.int .i64 0)).setCell ⟨R, 2, none⟩ (.string ⟨#[]⟩)).setCell ⟨R, 3, none⟩ (.slice none 0 0) = W5 at hz hb hs ⊢
    have he := heap_alloc_new (W5.alloc (.cells #[.string ⟨#[]⟩, .int .i64 0, .string ⟨#[]⟩, .slice none 0 0] 36)) (.cells #[.int .i64 2] 141)
    have hz2 := heap_keep (heap_keep hz (alloc_below W5 (.cells #[.string ⟨#[]⟩, .int .i64 0, .string ⟨#[]⟩, .slice none 0 0] 36))) (alloc_below _ (.cells #[.int .i64 2] 141))
    have hb3 := below_allocA (below_allocA hb (.cells #[.string ⟨#[]⟩, .int .i64 0, .string ⟨#[]⟩, .slice none 0 0] 36)) (.cells #[.int .i64 2] 141)
    simp only [World.size_alloc, hs] at he
    have hsz := HB2.out.size
    generalize (W5.alloc (.cells #[.string ⟨#[]⟩, .int .i64 0, .string ⟨#[]⟩, .slice none 0 0] 36)).alloc (.cells #[.int .i64 2] 141) = W6 at he hz2 hb3 ⊢
    obtain ⟨p0, _⟩ := heapcell hz2 0
    obtain ⟨p1, _⟩ := heapcell hz2 1
    obtain ⟨p2, _⟩ := heapcell hz2 2
    obtain ⟨p3, _⟩ := heapcell hz2 3
    exact bodyPost_ret (v := .tuple #[.agg #[.string ⟨#[]⟩, .int .i64 0, .string ⟨#[]⟩, .slice none 0 0], .iface 139 (.pointer (some ⟨w2.heap.size + 1, 0, none⟩))]) (by simp [results, Try.results14, go_sem, p0, p1, p2, p3]) rfl ⟨⟨_, rfl, he, by omega⟩, hb3⟩
  · obtain ⟨s, la, ln, lc, rfl, hse⟩ : ∃ s la ln lc, e = .returned (.tuple #[.agg #[.string s, .int .i64 0, .string ⟨#[]⟩, .slice la ln lc], .bool true]) ∧ s.toList.isEmpty = false := hT
    have HSE := Lib.hid hse
    clear hse
    go_wp2_with fail
    have hz : ((((w2.setCell ⟨R, 0, none⟩ (.string s)).setCell ⟨R, 1, none⟩ (.int .i64 0)).setCell ⟨R, 2, none⟩ (.string ⟨#[]⟩)).setCell ⟨R, 3, none⟩ (.slice la ln lc)).heap[R]? = some (.cells #[.string s, .int .i64 0, .string ⟨#[]⟩, .slice la ln lc] 36 (0, 0)) := heap_setA (heap_setA (heap_setA (heap_setA HR2.out _) _) _) _
    have hb : Below w.heap.size w ((((w2.setCell ⟨R, 0, none⟩ (.string s)).setCell ⟨R, 1, none⟩ (.int .i64 0)).setCell ⟨R, 2, none⟩ (.string ⟨#[]⟩)).setCell ⟨R, 3, none⟩ (.slice la ln lc)) :=
      (((HB2.out.setCell (Nat.le_of_eq HR.out.symm) _).setCell (Nat.le_of_eq HR.out.symm) _).setCell (Nat.le_of_eq HR.out.symm) _).setCell (Nat.le_of_eq HR.out.symm) _
    generalize (((w2.setCell ⟨R, 0, none⟩ (.string s)).setCell ⟨R, 1, none⟩ (.int .i64 0)).setCell ⟨R, 2, none⟩ (.string ⟨#[]⟩)).setCell ⟨R, 3, none⟩ (.slice la ln lc) = W5 at hz hb ⊢
    have hz2 := heap_keep hz (alloc_below W5 (.cells #[.string s, .int .i64 0, .string ⟨#[]⟩, .slice la ln lc] 36))
    have hb3 := below_allocA hb (.cells #[.string s, .int .i64 0, .string ⟨#[]⟩, .slice la ln lc] 36)
    generalize W5.alloc (.cells #[.string s, .int .i64 0, .string ⟨#[]⟩, .slice la ln lc] 36) = W6 at hz2 hb3 ⊢
    obtain ⟨p0, _⟩ := heapcell hz2 0
    obtain ⟨p1, _⟩ := heapcell hz2 1
    obtain ⟨p2, _⟩ := heapcell hz2 2
    obtain ⟨p3, _⟩ := heapcell hz2 3
    exact bodyPost_ret (v := .tuple #[.agg #[.string s, .int .i64 0, .string ⟨#[]⟩, .slice la ln lc], .nilIface]) (by simp [results, Try.results14, go_sem, p0, p1, p2, p3]) rfl ⟨⟨_, _, _, _, rfl, HSE.out⟩, hb3⟩
end
end Go.Proofs.Ytlpgfdhihimjaaa
