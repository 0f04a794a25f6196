/-
  AN ENGINE: a function in Lean that carries out the model's code over a heap whose new blocks bear names ('evF'), and the proof that what it tells is so of the model's own machine ('evF_ok', 'evF_closed').
  Conditions: none; where the engine does not know an operation it says 'none', and nothing is claimed.
-/
import Derived.Calls
import Derived.Defers
import Derived.Recover
import Derived.Orders
import Derived.Below
import Derived.Maps.AppendAt
import Derived.Laws.CopyRow
import Derived.KernelRfl
import Derived.LoopN
import Derived.OrdersHeld
set_option linter.unusedVariables false
set_option linter.unusedSimpArgs false
namespace Go.Proofs.YtlpgfdhihimjaaaGreat.Eng
section EngBase
open Go Go.RowKit

/-! ### 1. Values whose new blocks bear names -/
inductive AV where
  | raw (v : Value)
  | ptr (n off : Nat)
  | slc (n off len cap : Nat)
  | gsl (n len : Nat)
  | iface (t : TypeId) (v : AV)
  | agg (cs : List AV)
  | tup (vs : List AV)
  | fn (f : Fn) (first captured : List AV)

structure Env where
  ρ : Nat → Nat
  κ : Nat → Nat

mutual
def den (E : Env) : AV → Value
  | .raw v => v
  | .ptr n off => .pointer (some ⟨E.ρ n, off, none⟩)
  | .slc n off len cap => .slice (some ⟨E.ρ n, off, none⟩) len cap
  | .gsl n len => .slice (some ⟨E.ρ n, 0, none⟩) len (E.κ n)
  | .iface t v => .iface t (den E v)
  | .agg cs => .agg (denL E cs).toArray
  | .tup vs => .tuple (denL E vs).toArray
  | .fn f a b => .func f (denL E a).toArray (denL E b).toArray
def denL (E : Env) : List AV → List Value
  | [] => []
  | v :: r => den E v :: denL E r
end

mutual
def bd (N : Nat) : AV → Bool
  | .raw _ => true
  | .ptr n _ => Nat.blt n N
  | .slc n _ _ _ => Nat.blt n N
  | .gsl n _ => Nat.blt n N
  | .iface _ v => bd N v
  | .agg cs => bdL N cs
  | .tup vs => bdL N vs
  | .fn _ a b => bdL N a && bdL N b
def bdL (N : Nat) : List AV → Bool
  | [] => true
  | v :: r => bd N v && bdL N r
end

def Ext (N : Nat) (E E' : Env) : Prop := ∀ n, n < N → E'.ρ n = E.ρ n ∧ E'.κ n = E.κ n
theorem Ext.refl (N : Nat) (E : Env) : Ext N E E := fun _ _ => ⟨rfl, rfl⟩
theorem Ext.trans {N N' : Nat} {E E' E'' : Env} (h : Ext N E E') (h' : Ext N' E' E'') (hn : N ≤ N') : Ext N E E'' :=
  fun n hlt => ⟨(h' n (Nat.lt_of_lt_of_le hlt hn)).1.trans (h n hlt).1, (h' n (Nat.lt_of_lt_of_le hlt hn)).2.trans (h n hlt).2⟩

theorem blt_lt {n N : Nat} (h : Nat.blt n N = true) : n < N := by
  have := h
  simp only [Nat.blt, Nat.ble_eq] at this
  omega

mutual
theorem den_ext {N : Nat} {E E' : Env} (h : Ext N E E') : ∀ v, bd N v = true → den E' v = den E v
  | .raw v, _ => rfl
  | .ptr n off, hb => by simp only [bd] at hb; simp only [den, (h n (blt_lt hb)).1]
  | .slc n off len cap, hb => by simp only [bd] at hb; simp only [den, (h n (blt_lt hb)).1]
  | .gsl n len, hb => by simp only [bd] at hb; simp only [den, (h n (blt_lt hb)).1, (h n (blt_lt hb)).2]
  | .iface t v, hb => by simp only [bd] at hb; simp only [den, den_ext h v hb]
  | .agg cs, hb => by simp only [bd] at hb; simp only [den, denL_ext h cs hb]
  | .tup cs, hb => by simp only [bd] at hb; simp only [den, denL_ext h cs hb]
  | .fn f a b, hb => by
    simp only [bd, Bool.and_eq_true] at hb
    simp only [den, denL_ext h a hb.1, denL_ext h b hb.2]
theorem denL_ext {N : Nat} {E E' : Env} (h : Ext N E E') : ∀ l, bdL N l = true → denL E' l = denL E l
  | [], _ => rfl
  | v :: r, hb => by
    simp only [bdL, Bool.and_eq_true] at hb
    simp only [denL, den_ext h v hb.1, denL_ext h r hb.2]
end
theorem blt_mono {n N M : Nat} (h : N ≤ M) (hb : Nat.blt n N = true) : Nat.blt n M = true := by
  have := blt_lt hb
  simp [Nat.blt, Nat.ble_eq]
  omega
mutual
theorem bd_mono {N M : Nat} (h : N ≤ M) : ∀ v, bd N v = true → bd M v = true
  | .raw v, _ => rfl
  | .ptr n off, hb => by simp only [bd] at hb ⊢; exact blt_mono h hb
  | .slc n off len cap, hb => by simp only [bd] at hb ⊢; exact blt_mono h hb
  | .gsl n len, hb => by simp only [bd] at hb ⊢; exact blt_mono h hb
  | .iface t v, hb => by simp only [bd] at hb ⊢; exact bd_mono h v hb
  | .agg cs, hb => by simp only [bd] at hb ⊢; exact bdL_mono h cs hb
  | .tup cs, hb => by simp only [bd] at hb ⊢; exact bdL_mono h cs hb
  | .fn f a b, hb => by
    simp only [bd, Bool.and_eq_true] at hb ⊢
    exact ⟨bdL_mono h a hb.1, bdL_mono h b hb.2⟩
theorem bdL_mono {N M : Nat} (h : N ≤ M) : ∀ l, bdL N l = true → bdL M l = true
  | [], _ => rfl
  | v :: r, hb => by
    simp only [bdL, Bool.and_eq_true] at hb ⊢
    exact ⟨bd_mono h v hb.1, bdL_mono h r hb.2⟩
end

theorem denL_eq_map (E : Env) (l : List AV) : denL E l = l.map (den E) := by
  induction l with
  | nil => rfl
  | cons v r ih => simp [denL, ih]
theorem bdL_iff {N : Nat} {l : List AV} : bdL N l = true ↔ ∀ v ∈ l, bd N v = true := by
  induction l with
  | nil => simp [bdL]
  | cons v r ih => simp [bdL, ih]
theorem denL_length (E : Env) (l : List AV) : (denL E l).length = l.length := by simp [denL_eq_map]
theorem denL_getElem? (E : Env) (l : List AV) (i : Nat) : (denL E l)[i]? = (l[i]?).map (den E) := by simp [denL_eq_map]
theorem denL_append (E : Env) (a b : List AV) : denL E (a ++ b) = denL E a ++ denL E b := by simp [denL_eq_map]
theorem denL_take (E : Env) (n : Nat) (a : List AV) : denL E (a.take n) = (denL E a).take n := by simp [denL_eq_map, List.map_take]
theorem denL_drop (E : Env) (n : Nat) (a : List AV) : denL E (a.drop n) = (denL E a).drop n := by simp [denL_eq_map, List.map_drop]
theorem denL_raw (E : Env) (l : List Value) : denL E (l.map .raw) = l := by
  induction l with
  | nil => rfl
  | cons v r ih => simp [denL, den, ih]
theorem bdL_raw (N : Nat) (l : List Value) : bdL N (l.map .raw) = true := by
  induction l with
  | nil => rfl
  | cons v r ih => simp [bdL, bd, ih]
theorem bdL_take {N : Nat} {l : List AV} (h : bdL N l = true) (n : Nat) : bdL N (l.take n) = true := by
  rw [bdL_iff] at *; exact fun v hv => h v (List.mem_of_mem_take hv)
theorem bdL_drop {N : Nat} {l : List AV} (h : bdL N l = true) (n : Nat) : bdL N (l.drop n) = true := by
  rw [bdL_iff] at *; exact fun v hv => h v (List.mem_of_mem_drop hv)
theorem bdL_append {N : Nat} {a b : List AV} (h : bdL N a = true) (h' : bdL N b = true) : bdL N (a ++ b) = true := by
  rw [bdL_iff] at *
  intro v hv
  rcases List.mem_append.1 hv with hv | hv
  · exact h v hv
  · exact h' v hv

/-- Constructors on the outside. -/
def view : AV → AV
  | .raw (.iface t v) => .iface t (.raw v)
  | .raw (.agg cs) => .agg (cs.toList.map .raw)
  | .raw (.tuple cs) => .tup (cs.toList.map .raw)
  | .raw (.func f a b) => .fn f (a.toList.map .raw) (b.toList.map .raw)
  | v => v
theorem den_view (E : Env) (v : AV) : den E (view v) = den E v := by
  cases v with
  | raw v => cases v <;> simp [view, den, denL_raw]
  | _ => rfl
theorem bd_view {N : Nat} {v : AV} (h : bd N v = true) : bd N (view v) = true := by
  cases v with
  | raw v => cases v <;> simp [view, bd, bdL_raw]
  | _ => exact h

def cellsOf (v : AV) : List AV :=
  match view v with
  | .agg cs => cs
  | _ => [v]
theorem cells_den (E : Env) (v : AV) : (den E v).cells = (denL E (cellsOf v)).toArray := by
  cases v with
  | raw v => cases v <;> simp [cellsOf, view, den, denL, Value.cells, denL_raw]
  | agg cs => simp [cellsOf, view, den, Value.cells]
  | _ => simp [cellsOf, view, den, denL, Value.cells]
theorem bd_cells {N : Nat} {v : AV} (h : bd N v = true) : bdL N (cellsOf v) = true := by
  cases v with
  | raw v => cases v <;> simp [cellsOf, view, bd, bdL, bdL_raw]
  | agg cs => simpa [cellsOf, view, bd] using h
  | _ => simpa [cellsOf, view, bdL] using h

/-- One cell. -/
def one (v : AV) : Bool :=
  match v with
  | .raw v => v.oneCell'
  | .agg _ | .tup _ => false
  | _ => true
theorem one_den (E : Env) {v : AV} (h : one v = true) : (den E v).oneCell' = true := by
  cases v with
  | raw v => exact h
  | agg cs => simp [one] at h
  | tup cs => simp [one] at h
  | _ => rfl

/-! ### 2. The heap of named blocks -/
inductive AObj where
  | blk (ty : TypeId) (cells : List AV) (grow : Option Nat)
  | iter (s : ByteArray) (pos : Nat)
abbrev Heap := List (Nat × AObj)
def look : Heap → Nat → Option AObj
  | [], _ => none
  | (m, o) :: r, n => bif Nat.beq m n then some o else look r n
def putH : Heap → Nat → AObj → Heap
  | [], _, _ => []
  | (m, o) :: r, n, x => bif Nat.beq m n then (m, x) :: r else (m, o) :: putH r n x
def dropH : Heap → Nat → Heap
  | [], _ => []
  | (m, o) :: r, n => bif Nat.beq m n then dropH r n else (m, o) :: dropH r n
theorem look_put {h : Heap} {n m : Nat} {x : AObj} : look (putH h n x) m = if m = n then (look h n).map (fun _ => x) else look h m := by
  induction h with
  | nil => simp [putH, look]
  | cons p r ih =>
    obtain ⟨k, o⟩ := p
    simp only [putH]
    by_cases hk : k = n
    · subst hk
      simp only [Nat.beq_eq_true_eq, Nat.beq_refl, cond_true, look]
      by_cases hm : m = k
      · subst hm; simp
      · have : Nat.beq k m = false := by
          cases hb : Nat.beq k m with
          | false => rfl
          | true => exact absurd (Nat.eq_of_beq_eq_true hb).symm hm
        simp [this, hm]
    · have hb : Nat.beq k n = false := by
        cases hb : Nat.beq k n with
        | false => rfl
        | true => exact absurd (Nat.eq_of_beq_eq_true hb) hk
      simp only [hb, cond_false, look, ih]
      by_cases hm : m = n
      · subst hm; simp [hb]
      · simp [hm]
theorem look_drop {h : Heap} {n m : Nat} : look (dropH h n) m = if m = n then none else look h m := by
  induction h with
  | nil => simp [dropH, look]
  | cons p r ih =>
    obtain ⟨k, o⟩ := p
    simp only [dropH]
    by_cases hk : k = n
    · subst hk
      simp only [Nat.beq_refl, cond_true, ih, look]
      by_cases hm : m = k
      · simp [hm]
      · have : Nat.beq k m = false := by
          cases hb : Nat.beq k m with
          | false => rfl
          | true => exact absurd (Nat.eq_of_beq_eq_true hb).symm hm
        simp [this, hm]
    · have hb : Nat.beq k n = false := by
        cases hb : Nat.beq k n with
        | false => rfl
        | true => exact absurd (Nat.eq_of_beq_eq_true hb) hk
      simp only [hb, cond_false, look, ih]
      by_cases hm : m = n
      · subst hm; simp [hb]
      · simp [hm]

def bdO (N : Nat) : AObj → Bool
  | .blk _ cs _ => bdL N cs
  | .iter _ _ => true
theorem bdO_mono {N M : Nat} (h : N ≤ M) : ∀ o, bdO N o = true → bdO M o = true
  | .blk _ cs _, hb => bdL_mono h cs hb
  | .iter _ _, _ => rfl

def Ent (E : Env) (w : World) (n : Nat) : AObj → Prop
  | .blk ty cs none => w.heap[E.ρ n]? = some (.cells (denL E cs).toArray ty (0, 0))
  | .blk ty cs (some sz) => ∃ spare : List Value, w.heap[E.ρ n]? = some (.cells (denL E cs ++ spare).toArray ty (0, 0)) ∧ cs.length + spare.length = E.κ n * sz ∧ E.κ n ≤ maxLen
  | .iter s pos => w.heap[E.ρ n]? = some (.stringIter s pos)
theorem Ent.lt {E : Env} {w : World} {n : Nat} {o : AObj} (h : Ent E w n o) : E.ρ n < w.heap.size := by
  cases o with
  | iter s pos => exact (Array.getElem?_eq_some_iff.1 h).1
  | blk ty cs g =>
    cases g with
    | none => exact (Array.getElem?_eq_some_iff.1 h).1
    | some sz => obtain ⟨sp, h, _⟩ := h; exact (Array.getElem?_eq_some_iff.1 h).1
theorem Ent.keep {E E' : Env} {w w' : World} {n N : Nat} {o : AObj} (h : Ent E w n o) (hx : Ext N E E') (hn : n < N) (hb : bdO N o = true)
    (hw : w'.heap[E.ρ n]? = w.heap[E.ρ n]?) : Ent E' w' n o := by
  have h1 := hx n hn
  cases o with
  | iter s pos => simp only [Ent] at *; rw [h1.1, hw]; exact h
  | blk ty cs g =>
    have h2 := denL_ext hx cs hb
    cases g with
    | none => simp only [Ent] at *; rw [h1.1, hw, h2]; exact h
    | some sz => simp only [Ent] at *; rw [h1.1, h1.2, hw, h2]; exact h

structure HI (B : Nat) (w0 : World) (E : Env) (h : Heap) (nx : Nat) (w : World) : Prop where
  below : Below B w0 w
  size : B ≤ w.heap.size
  ent : ∀ n o, look h n = some o → n < nx ∧ B ≤ E.ρ n ∧ bdO nx o = true ∧ Ent E w n o
  inj : ∀ n m o o', look h n = some o → look h m = some o' → E.ρ n = E.ρ m → n = m

variable {B : Nat} {w0 : World} {E : Env} {h : Heap} {nx : Nat} {w : World}

theorem HI.drew (H : HI B w0 E h nx w) : HI B w0 E h nx { w with drawn := w.drawn + 1 } :=
  ⟨H.below.trans ⟨rfl, rfl, rfl, Nat.le_refl _, fun _ _ => rfl⟩, H.size,
   fun n o hl => let ⟨a, b, c, d⟩ := H.ent n o hl; ⟨a, b, c, d.keep (Ext.refl nx E) a c rfl⟩, H.inj⟩
theorem HI.next (H : HI B w0 E h nx w) {M : Nat} (hM : nx ≤ M) : HI B w0 E h M w :=
  ⟨H.below, H.size, fun n o hl => let ⟨a, b, c, d⟩ := H.ent n o hl; ⟨Nat.lt_of_lt_of_le a hM, b, bdO_mono hM o c, d⟩, H.inj⟩

def Env.set (E : Env) (n r k : Nat) : Env := ⟨fun m => if m = n then r else E.ρ m, fun m => if m = n then k else E.κ m⟩
theorem Env.set_ext (E : Env) (n r k : Nat) : Ext n E (E.set n r k) := fun m hm => by
  simp [Env.set, Nat.ne_of_lt hm]
theorem Env.set_ρ (E : Env) (n r k : Nat) : (E.set n r k).ρ n = r := by simp [Env.set]
theorem Env.set_κ (E : Env) (n r k : Nat) : (E.set n r k).κ n = k := by simp [Env.set]

/-- A new block under a new name, in whatever new world keeps the named blocks. -/
theorem HI.add (H : HI B w0 E h nx w) {w' : World} {g k : Nat} {o : AObj} (hbel : Below B w0 w') (hsz : B ≤ w'.heap.size)
    (hkeep : ∀ n o, look h n = some o → w'.heap[E.ρ n]? = w.heap[E.ρ n]?) (hg : B ≤ g) (hne : ∀ n o, look h n = some o → E.ρ n ≠ g)
    (hb : bdO nx o = true) (he : Ent (E.set nx g k) w' nx o) : HI B w0 (E.set nx g k) ((nx, o) :: h) (nx + 1) w' := by
  have hlk : ∀ n x, look ((nx, o) :: h) n = some x → (n = nx ∧ x = o) ∨ (n < nx ∧ look h n = some x) := by
    intro n x hl
    simp only [look] at hl
    cases hbq : Nat.beq nx n with
    | true =>
      simp only [hbq, cond_true, Option.some.injEq] at hl
      exact .inl ⟨(Nat.eq_of_beq_eq_true hbq).symm, hl.symm⟩
    | false =>
      simp only [hbq, cond_false] at hl
      exact .inr ⟨(H.ent n x hl).1, hl⟩
  refine ⟨hbel, hsz, ?_, ?_⟩
  · intro n x hl
    rcases hlk n x hl with ⟨rfl, rfl⟩ | ⟨hn, hl⟩
    · exact ⟨Nat.lt_succ_self _, by rw [Env.set_ρ]; exact hg, bdO_mono (Nat.le_succ _) _ hb, he⟩
    · obtain ⟨a, b, c, d⟩ := H.ent n x hl
      have hx := Env.set_ext E nx g k
      exact ⟨by omega, by rw [(hx n a).1]; exact b, bdO_mono (Nat.le_succ _) _ c, d.keep hx a c (hkeep n x hl)⟩
  · intro n m x y hl hl' heq
    have hx := Env.set_ext E nx g k
    rcases hlk n x hl with ⟨e1, _⟩ | ⟨hn, hl⟩ <;> rcases hlk m y hl' with ⟨e2, _⟩ | ⟨hm, hl'⟩
    · rw [e1, e2]
    · rw [e1, Env.set_ρ, (hx m hm).1] at heq
      exact absurd heq.symm (hne m y hl')
    · rw [e2, Env.set_ρ, (hx n hn).1] at heq
      exact absurd heq (hne n x hl)
    · rw [(hx n hn).1, (hx m hm).1] at heq
      exact H.inj n m x y hl hl' heq

theorem HI.alloc (H : HI B w0 E h nx w) {ty : TypeId} {cs : List AV} (hb : bdL nx cs = true) :
    HI B w0 (E.set nx w.heap.size 0) ((nx, .blk ty cs none) :: h) (nx + 1) (w.alloc (.cells (denL E cs).toArray ty)) := by
  refine H.add (H.below.alloc H.size _) (by simp only [World.size_alloc]; have := H.size; omega) (fun n o hl => ?_) H.size (fun n o hl => ?_) hb ?_
  · exact Below.heap_alloc w _ _ (H.ent n o hl).2.2.2.lt
  · exact Nat.ne_of_lt (H.ent n o hl).2.2.2.lt
  · simp only [Ent, Env.set_ρ, denL_ext (Env.set_ext E nx w.heap.size 0) cs hb]
    exact heap_alloc_new w _
theorem HI.allocIter (H : HI B w0 E h nx w) {s : ByteArray} {p : Nat} :
    HI B w0 (E.set nx w.heap.size 0) ((nx, .iter s p) :: h) (nx + 1) (w.alloc (.stringIter s p)) := by
  refine H.add (H.below.alloc H.size _) (by simp only [World.size_alloc]; have := H.size; omega) (fun n o hl => ?_) H.size (fun n o hl => ?_) rfl ?_
  · exact Below.heap_alloc w _ _ (H.ent n o hl).2.2.2.lt
  · exact Nat.ne_of_lt (H.ent n o hl).2.2.2.lt
  · simp only [Ent, Env.set_ρ]
    exact heap_alloc_new w _

/-- A named block is turned. -/
theorem HI.turn (H : HI B w0 E h nx w) {w' : World} {n : Nat} {o o' : AObj} (hl : look h n = some o) (hbel : Below B w0 w') (hsz : B ≤ w'.heap.size)
    (hkeep : ∀ g, g ≠ E.ρ n → w'.heap[g]? = w.heap[g]?) (hb : bdO nx o' = true) (he : Ent E w' n o') : HI B w0 E (putH h n o') nx w' := by
  have hlk : ∀ m x, look (putH h n o') m = some x → (m = n ∧ x = o') ∨ (m ≠ n ∧ look h m = some x) := by
    intro m x hx
    rw [look_put] at hx
    by_cases hm : m = n
    · subst hm; simp [hl] at hx; exact .inl ⟨rfl, hx.symm⟩
    · simp [hm] at hx; exact .inr ⟨hm, hx⟩
  refine ⟨hbel, hsz, ?_, ?_⟩
  · intro m x hx
    rcases hlk m x hx with ⟨rfl, rfl⟩ | ⟨hm, hx⟩
    · obtain ⟨a, b, c, d⟩ := H.ent _ _ hl
      exact ⟨a, b, hb, he⟩
    · obtain ⟨a, b, c, d⟩ := H.ent _ _ hx
      exact ⟨a, b, c, d.keep (Ext.refl nx E) a c (hkeep _ fun e => hm (H.inj _ _ _ _ hx hl e))⟩
  · intro m k x y hx hy
    have h1 : ∃ z, look h m = some z := by
      rcases hlk m x hx with ⟨rfl, _⟩ | ⟨_, hx⟩
      · exact ⟨_, hl⟩
      · exact ⟨_, hx⟩
    have h2 : ∃ z, look h k = some z := by
      rcases hlk k y hy with ⟨rfl, _⟩ | ⟨_, hy⟩
      · exact ⟨_, hl⟩
      · exact ⟨_, hy⟩
    obtain ⟨z, h1⟩ := h1
    obtain ⟨z', h2⟩ := h2
    exact H.inj _ _ _ _ h1 h2
theorem HI.forget (H : HI B w0 E h nx w) (n : Nat) : HI B w0 E (dropH h n) nx w := by
  have hlk : ∀ m x, look (dropH h n) m = some x → look h m = some x := by
    intro m x hx
    rw [look_drop] at hx
    by_cases hm : m = n
    · simp [hm] at hx
    · simpa [hm] using hx
  exact ⟨H.below, H.size, fun m x hx => H.ent m x (hlk m x hx), fun m k x y hx hy => H.inj _ _ _ _ (hlk _ _ hx) (hlk _ _ hy)⟩

/-- A cell that is known. -/
def cellAt (h : Heap) (n off : Nat) : Option AV :=
  match look h n with
  | some (.blk _ cs _) => cs[off]?
  | _ => none
theorem HI.cell (H : HI B w0 E h nx w) {n off : Nat} {v : AV} (hc : cellAt h n off = some v) : w.cell? ⟨E.ρ n, off, none⟩ = some (den E v) ∧ bd nx v = true := by
  unfold cellAt at hc
  split at hc
  · rename_i ty cs g hl
    obtain ⟨a, b, c, d⟩ := H.ent _ _ hl
    have hbv : bd nx v = true := bdL_iff.1 c v (List.mem_of_getElem? hc)
    refine ⟨?_, hbv⟩
    cases g with
    | none =>
      simp only [Ent] at d
      rw [cell_of_row w _ off _ _ _ d]
      simp [denL_getElem?, hc]
    | some sz =>
      obtain ⟨sp, d, _⟩ := d
      rw [cell_of_row w _ off _ _ _ d]
      have hlt : off < cs.length := by
        rcases Nat.lt_or_ge off cs.length with h' | h'
        · exact h'
        · rw [List.getElem?_eq_none h'] at hc; cases hc
      have h3 := denL_getElem? E cs off
      rw [hc] at h3
      simp only [List.getElem?_toArray]
      rw [List.getElem?_append_left (by rw [denL_length]; exact hlt), h3]
      rfl
  · cases hc
def cellsAt (h : Heap) (n off len : Nat) : Option (List AV) :=
  match look h n with
  | some (.blk _ cs _) => bif Nat.ble (off + len) cs.length then some ((cs.drop off).take len) else none
  | _ => none
theorem cellsAt_cell {h : Heap} {n off len : Nat} {l : List AV} (hc : cellsAt h n off len = some l) : l.length = len ∧ ∀ j v, l[j]? = some v → cellAt h n (off + j) = some v := by
  unfold cellsAt at hc
  split at hc
  · rename_i ty cs g hl
    cases hb : Nat.ble (off + len) cs.length with
    | false => simp [hb] at hc
    | true =>
      have hle : off + len ≤ cs.length := by simpa [Nat.ble_eq] using hb
      simp only [hb, cond_true, Option.some.injEq] at hc
      subst hc
      refine ⟨by simp; omega, fun j v hv => ?_⟩
      rw [List.getElem?_take] at hv
      split at hv
      · simp only [cellAt, hl]
        rw [List.getElem?_drop] at hv
        exact hv
      · cases hv
  · cases hc
theorem addr_add (g o j : Nat) : (⟨g, o, none⟩ : Addr).add j = ⟨g, o + j, none⟩ := by unfold Addr.add; split <;> simp_all
theorem HI.cells (H : HI B w0 E h nx w) {n off len : Nat} {l : List AV} (hc : cellsAt h n off len = some l) :
    l.length = len ∧ bdL nx l = true ∧ ∀ j v, (denL E l)[j]? = some v → w.cell? ((⟨E.ρ n, off, none⟩ : Addr).add j) = some v := by
  obtain ⟨h1, h2⟩ := cellsAt_cell hc
  refine ⟨h1, bdL_iff.2 fun v hv => ?_, fun j v hv => ?_⟩
  · obtain ⟨j, hj⟩ := List.mem_iff_getElem?.1 hv
    exact (H.cell (h2 j v hj)).2
  · rw [denL_getElem?] at hv
    cases hj : l[j]? with
    | none => simp [hj] at hv
    | some x =>
      simp [hj] at hv
      rw [addr_add, ← hv]
      exact (H.cell (h2 j x hj)).1

/-- Cells written. -/
def setAt (l : List AV) (off : Nat) (vs : List AV) : List AV := l.take off ++ vs ++ l.drop (off + vs.length)
theorem HI.store (H : HI B w0 E h nx w) {P : Program} {n off : Nat} {ty : TypeId} {cs vs : List AV} {g : Option Nat} (hl : look h n = some (.blk ty cs g))
    (hle : off + vs.length ≤ cs.length) (hb : bdL nx vs = true) (h1 : vs.all one = true) :
    ∃ w', (storeCells ⟨E.ρ n, off, none⟩ (denL E vs)).run P w = .ok () w' ∧ HI B w0 E (putH h n (.blk ty (setAt cs off vs) g)) nx w' := by
  obtain ⟨a, b, c, d⟩ := H.ent _ _ hl
  have hone : ∀ v ∈ denL E vs, v.oneCell' = true := by
    intro v hv
    rw [denL_eq_map] at hv
    obtain ⟨x, hx, rfl⟩ := List.mem_map.1 hv
    exact one_den E (List.all_eq_true.1 h1 x hx)
  have key : ∀ sp : List Value, w.heap[E.ρ n]? = some (.cells (denL E cs ++ sp).toArray ty (0, 0)) →
      ∃ w', (storeCells ⟨E.ρ n, off, none⟩ (denL E vs)).run P w = .ok () w' ∧ w'.heap[E.ρ n]? = some (.cells (denL E (setAt cs off vs) ++ sp).toArray ty (0, 0)) ∧
        Below B w0 w' ∧ w'.heap.size = w.heap.size ∧ ∀ k, k ≠ E.ρ n → w'.heap[k]? = w.heap[k]? := by
    intro sp hg
    have hst := run_storeCells_at P (E.ρ n) off ty (denL E vs) 0 _ w hg (by simp [denL_length]; omega) hone
    simp only [Nat.add_zero] at hst
    refine ⟨_, hst, ?_, ?_, by simp [World.setRow], fun k hk => setRow_other w _ k _ hk⟩
    · rw [setRow_heap w _ _ _ _ _ hg]
      congr 2
      simp only [setAt, denL_append, denL_take, denL_drop, denL_length, List.append_assoc]
      have h2 : off ≤ (denL E cs).length := by rw [denL_length]; omega
      have h3 : off + vs.length ≤ (denL E cs).length := by rw [denL_length]; omega
      rw [List.take_append_of_le_length h2, List.drop_append_of_le_length h3]
    · exact H.below.trans ⟨rfl, rfl, rfl, by simp [World.setRow], fun k hk => setRow_other w _ k _ (by omega)⟩
  have hbs : bdL nx (setAt cs off vs) = true := bdL_append (bdL_append (bdL_take c _) hb) (bdL_drop c _)
  have hlen : (setAt cs off vs).length = cs.length := by simp [setAt]; omega
  cases g with
  | none =>
    obtain ⟨w', h2, h3, h4, h5, h6⟩ := key [] (by simpa [Ent] using d)
    exact ⟨w', h2, H.turn hl h4 (by rw [h5]; exact H.size) h6 hbs (by simpa [Ent] using h3)⟩
  | some sz =>
    obtain ⟨sp, d1, d2, d3⟩ := d
    obtain ⟨w', h2, h3, h4, h5, h6⟩ := key sp d1
    exact ⟨w', h2, H.turn hl h4 (by rw [h5]; exact H.size) h6 hbs ⟨sp, h3, by rw [hlen]; exact d2, d3⟩⟩
end EngBase
end Go.Proofs.YtlpgfdhihimjaaaGreat.Eng
namespace Go.Proofs.YtlpgfdhihimjaaaGreat.Eng
section EngOps
open Go Go.RowKit

structure ADef where
  f : Fn
  cap : List AV
  args : List AV
def denD (E : Env) (d : ADef) : Deferred := { target := .fn d.f (denL E d.cap).toArray, args := (denL E d.args).toArray }
def bdD (N : Nat) (d : ADef) : Bool := bdL N d.cap && bdL N d.args

inductive OR where
  | val (v : AV) (h : Heap) (nx : Nat)
  | skip (h : Heap)
  | enter (f : FuncId) (args : List AV)
  | dfr (d : ADef)
  | pan (v : AV) (h : Heap) (nx : Nat)

variable {B : Nat} {w0 : World} {E : Env} {h : Heap} {nx : Nat} {w : World} {P : Program}

def ORok (B : Nat) (w0 : World) (E : Env) (nx : Nat) (w : World) (P : Program) (s : Sem Next) : OR → Prop
  | .val v h' nx' => bd nx' v = true ∧ nx ≤ nx' ∧ ∃ E' w', Ext nx E E' ∧ HI B w0 E' h' nx' w' ∧ s.run P w = .ok (.value (den E' v)) w'
  | .skip h' => ∃ w', HI B w0 E h' nx w' ∧ s.run P w = .ok .skip w'
  | .enter f args => bdL nx args = true ∧ s.run P w = .ok (.enter f (denL E args).toArray) w
  | .dfr d => bdD nx d = true ∧ s.run P w = .ok (.defer (denD E d)) w
  | .pan v h' nx' => bd nx' v = true ∧ nx ≤ nx' ∧ ∃ E' w', Ext nx E E' ∧ HI B w0 E' h' nx' w' ∧ s.run P w = .halt (.panic (den E' v)) w'

/-- A value without a change. -/
theorem ORok.pure_ {s : Sem Next} {v : AV} (H : HI B w0 E h nx w) (hb : bd nx v = true) (hr : s.run P w = .ok (.value (den E v)) w) : ORok B w0 E nx w P s (.val v h nx) :=
  ⟨hb, Nat.le_refl _, E, w, Ext.refl _ _, H, hr⟩

/-! ### types -/
def isAggT (P : Program) (t : TypeId) : Option Bool :=
  match P.underlying t with
  | some (.struct _) => some true
  | some (.array _ _) => some true
  | some _ => some false
  | none => none
theorem run_isAgg {t : TypeId} {b : Bool} (hh : isAggT P t = some b) (w : World) : (isAgg t).run P w = .ok b w := by
  unfold isAggT at hh
  cases hu : P.underlying t with
  | none => simp [hu] at hh
  | some d =>
    rw [hu] at hh
    cases d <;> simp at hh <;> subst hh <;> simp [isAgg, run_underlying hu]
theorem run_sizeOf' {t : TypeId} {i : TypeInfo} (hh : P.info? t = some i) (w : World) : (sizeOf t).run P w = .ok i.size w := by
  simp [sizeOf, typeInfo, hh]
theorem run_zero {t : TypeId} {i : TypeInfo} {z : Value} (hh : P.info? t = some i) (hz : i.zero = some z) (w : World) : (zeroValue t).run P w = .ok z w := by
  simp [zeroValue, typeInfo, hh, hz]
def zeroOf (P : Program) (t : TypeId) : Option Value :=
  match P.info? t with
  | some i => i.zero
  | none => none
theorem run_zeroOf {t : TypeId} {z : Value} (hh : zeroOf P t = some z) (w : World) : (zeroValue t).run P w = .ok z w := by
  unfold zeroOf at hh
  split at hh
  · rename_i i hi; exact run_zero hi hh w
  · cases hh
def sizeT (P : Program) (t : TypeId) : Option Nat :=
  match P.info? t with
  | some i => some i.size
  | none => none
theorem run_sizeT {t : TypeId} {n : Nat} (hh : sizeT P t = some n) (w : World) : (sizeOf t).run P w = .ok n w := by
  unfold sizeT at hh
  split at hh
  · rename_i i hi; injection hh with hh; rw [← hh]; exact run_sizeOf' hi w
  · cases hh
theorem run_und {t : TypeId} {d : TypeDesc} (hh : P.underlying t = some d) (w : World) : (underlying t).run P w = .ok d w := run_underlying hh w

/-! ### loads -/
def evLoadAt (P : Program) (h : Heap) (t : TypeId) (n off : Nat) : Option AV :=
  match isAggT P t with
  | some true =>
    match sizeT P t with
    | some k => match cellsAt h n off k with
      | some l => some (.agg l)
      | none => none
    | none => none
  | some false => cellAt h n off
  | none => none
theorem evLoadAt_ok (H : HI B w0 E h nx w) {t : TypeId} {n off : Nat} {v : AV} (hh : evLoadAt P h t n off = some v) :
    (loadVar t ⟨E.ρ n, off, none⟩).run P w = .ok (den E v) w ∧ bd nx v = true := by
  unfold evLoadAt at hh
  split at hh
  · rename_i ha
    split at hh
    · rename_i k hk
      split at hh
      · rename_i l hl
        injection hh with hh
        subst hh
        obtain ⟨h1, h2, h3⟩ := H.cells hl
        have h4 := run_loadCells_list (P := P) w ⟨E.ρ n, off, none⟩ (denL E l) h3
        rw [denL_length, h1] at h4
        simp [loadVar, run_isAgg ha, run_sizeT hk, h4, den, bd, h2]
      · cases hh
    · cases hh
  · rename_i ha
    obtain ⟨h1, h2⟩ := H.cell hh
    simp [loadVar, run_isAgg ha, h1, h2]
  · cases hh
def asPtr (v : AV) : Option (Nat × Nat) :=
  match v with
  | .ptr n off => some (n, off)
  | _ => none
theorem asPtr_ok {v : AV} {n off : Nat} (hh : asPtr v = some (n, off)) : v = .ptr n off := by
  cases v <;> simp [asPtr] at hh
  obtain ⟨rfl, rfl⟩ := hh
  rfl

/-! ### new blocks -/
def newBlk (h : Heap) (nx : Nat) (t : TypeId) (cs : List AV) : Option OR :=
  bif bdL nx cs then some (.val (.ptr nx 0) ((nx, .blk t cs none) :: h) (nx + 1)) else none
theorem blt_succ (n : Nat) : Nat.blt n (n + 1) = true := by simp [Nat.blt, Nat.ble_eq]
theorem newBlk_ok (H : HI B w0 E h nx w) {t : TypeId} {cs : List AV} {r : OR} {s : Sem Next} (hh : newBlk h nx t cs = some r)
    (hr : s.run P w = .ok (.value (.pointer (some ⟨w.heap.size, 0, none⟩))) (w.alloc (.cells (denL E cs).toArray t))) : ORok B w0 E nx w P s r := by
  unfold newBlk at hh
  cases hb : bdL nx cs with
  | false => simp [hb] at hh
  | true =>
    simp only [hb, cond_true, Option.some.injEq] at hh
    subst hh
    refine ⟨blt_succ nx, Nat.le_succ _, _, _, Env.set_ext E nx w.heap.size 0, H.alloc hb, ?_⟩
    rw [hr]
    simp [den, Env.set_ρ]

/-! ### fill -/
def fillA (place : Nat → Option (Nat × Nat)) (cells : List AV) : List (Nat × AV) → Option (List AV)
  | [] => some cells
  | (i, v) :: rest =>
    match place i with
    | none => none
    | some (off, size) =>
      bif Nat.beq (cellsOf v).length size && Nat.ble (off + size) cells.length then fillA place (setAt cells off (cellsOf v)) rest else none
theorem fold_set (off : Nat) : ∀ (vs : List Value) (k : Nat) (cs : List Value), off + k + vs.length ≤ cs.length →
    (vs.zipIdx k).foldl (fun (cs : Array Value) (c, j) => cs.setIfInBounds (off + j) c) cs.toArray = (cs.take (off + k) ++ vs ++ cs.drop (off + k + vs.length)).toArray
  | [], k, cs, _ => by simp
  | v :: vs, k, cs, hl => by
    simp only [List.zipIdx_cons, List.foldl_cons]
    have h1 : cs.toArray.setIfInBounds (off + k) v = (cs.set (off + k) v).toArray := by simp
    rw [h1, fold_set off vs (k + 1) (cs.set (off + k) v) (by simp at hl ⊢; omega)]
    congr 1
    have := list_seg_step cs (off + k) v vs (by simp at hl; omega)
    simpa [Nat.add_assoc] using this
theorem fillA_ok (E : Env) (place : Nat → Option (Nat × Nat)) : ∀ (parts : List (Nat × AV)) (cells r : List AV), fillA place cells parts = some r →
    Instr.fill place (denL E cells).toArray (parts.map fun p => (p.1, den E p.2)) = some (denL E r).toArray
  | [], cells, r, hh => by
    simp only [fillA, Option.some.injEq] at hh
    subst hh
    rfl
  | (i, v) :: rest, cells, r, hh => by
    simp only [fillA] at hh
    split at hh
    · cases hh
    · rename_i off size hp
      cases hc : (Nat.beq (cellsOf v).length size && Nat.ble (off + size) cells.length) with
      | false => simp [hc] at hh
      | true =>
        simp only [hc, cond_true] at hh
        simp only [Bool.and_eq_true, Nat.ble_eq] at hc
        have h1 : (cellsOf v).length = size := Nat.eq_of_beq_eq_true hc.1
        have ih := fillA_ok E place rest _ r hh
        simp only [List.map_cons, Instr.fill, hp]
        rw [cells_den]
        have h2 : ¬ ((denL E (cellsOf v)).toArray.size ≠ size ∨ off + (denL E (cellsOf v)).toArray.size > (denL E cells).toArray.size) := by
          simp [denL_length, h1]; omega
        rw [if_neg (by simpa using h2)]
        have h3 := fold_set off (denL E (cellsOf v)) 0 (denL E cells) (by simp [denL_length, h1]; omega)
        simp only [Nat.add_zero, denL_length] at h3
        have h4 : (denL E (cellsOf v)).toArray.zipIdx = ((denL E (cellsOf v)).zipIdx 0).toArray := by simp
        rw [h4]
        simp only [List.foldl_toArray]
        have h5 : (denL E (setAt cells off (cellsOf v))).toArray = (List.take off (denL E cells) ++ denL E (cellsOf v) ++ List.drop (off + (cellsOf v).length) (denL E cells)).toArray := by
          simp [setAt, denL_append, denL_take, denL_drop]
        rw [h5, ← h3] at ih
        exact ih

def placesOf (P : Program) (fields : Array Field) : Nat → Option (Nat × Nat) := fun i =>
  match fields[i]? with
  | some f => some (f.offset, P.cellsOf f.type)
  | none => none
theorem run_mapM_list {α β : Type} (f : α → Sem β) (g : α → β) (w : World) : ∀ (l : List α), (∀ x ∈ l, (f x).run P w = .ok (g x) w) → (l.mapM f).run P w = .ok (l.map g) w
  | [], _ => by simp
  | x :: l, hh => by
    have ih := run_mapM_list f g w l fun y hy => hh y (by simp [hy])
    simp [List.mapM_cons, hh x (by simp), ih]
theorem run_mapM_array {α β : Type} (f : α → Sem β) (g : α → β) (w : World) (l : Array α) (hh : ∀ x ∈ l, (f x).run P w = .ok (g x) w) : (l.mapM f).run P w = .ok (l.map g) w := by
  cases l with
  | mk l =>
    rw [Array.mapM_eq_mapM_toList]
    simp only [Sem.run_map]
    rw [run_mapM_list f g w l fun x hx => hh x (by simpa using hx)]
    simp
def fieldsOk (P : Program) (fields : Array Field) : Bool := fields.toList.all fun f => (P.info? f.type).isSome
theorem run_places {fields : Array Field} (hh : fieldsOk P fields = true) (w : World) :
    ((fields.mapM fun f => do pure (f.offset, ← sizeOf f.type)) : Sem (Array (Nat × Nat))).run P w = .ok (fields.map fun f => (f.offset, P.cellsOf f.type)) w := by
  refine run_mapM_array _ _ w fields fun f hf => ?_
  have h1 : (P.info? f.type).isSome = true := List.all_eq_true.1 hh f (by simpa using hf)
  cases hi : P.info? f.type with
  | none => simp [hi] at h1
  | some i => simp [run_sizeOf' hi, Program.cellsOf, hi]
def rawCells (v : Value) : List AV := cellsOf (.raw v)
theorem rawCells_den (E : Env) (v : Value) : v.cells = (denL E (rawCells v)).toArray := by
  have := cells_den E (.raw v)
  simpa [den, rawCells] using this
theorem rawCells_bd (N : Nat) (v : Value) : bdL N (rawCells v) = true := bd_cells (v := .raw v) rfl

def evBuild (P : Program) (t : TypeId) (parts : List (Nat × AV)) : Option AV :=
  match zeroOf P t with
  | some z =>
    match P.underlying t with
    | some (.struct fields) =>
      bif fieldsOk P fields then
        match fillA (placesOf P fields) (rawCells z) parts with
        | some cs => some (.agg cs)
        | none => none
      else none
    | _ => none
  | none => none
theorem evBuild_ok {t : TypeId} {parts : List (Nat × AV)} {v : AV} (hh : evBuild P t parts = some v) (E : Env) (w : World) :
    (Instr.build t (parts.map fun p => (p.1, den E p.2)).toArray).run P w = .ok (den E v) w := by
  unfold evBuild at hh
  split at hh
  · rename_i z hz
    split at hh
    · rename_i fields hu
      cases hf : fieldsOk P fields with
      | false => simp [hf] at hh
      | true =>
        simp only [hf, cond_true] at hh
        split at hh
        · rename_i cs hcs
          injection hh with hh
          subst hh
          have h1 := fillA_ok E _ _ _ _ hcs
          have h2 : (placesOf P fields) = fun i => (fields.map fun f => (f.offset, P.cellsOf f.type))[i]? := by
            funext i
            simp only [placesOf, Array.getElem?_map]
            cases fields[i]? <;> rfl
          rw [h2, ← rawCells_den E z] at h1
          have h3 := run_places hf w
          simp only [bind_pure_comp] at h3
          simp only [Array.getElem?_map] at h1
          simp [Instr.build, run_zeroOf hz, run_und hu, h3, h1, den]
        · cases hh
    · cases hh
  · cases hh

def zerosA (z : Value) (n : Nat) : List AV := (List.replicate n (rawCells z)).flatten
def evBuildSlice (P : Program) (h : Heap) (nx : Nat) (t : TypeId) (len : Nat) (parts : List (Nat × AV)) : Option OR :=
  match P.underlying t with
  | some (.slice elem) =>
    match sizeT P elem, zeroOf P elem with
    | some size, some z =>
      bif Nat.ble (len * size) 16777216 && Nat.beq (rawCells z).length size && Nat.blt 0 size then
        match fillA (fun i => some (i * size, size)) (zerosA z len) parts with
        | some cs => bif bdL nx cs then some (.val (.slc nx 0 len len) ((nx, .blk elem cs none) :: h) (nx + 1)) else none
        | none => none
      else none
    | _, _ => none
  | _ => none
theorem zeros_eq (E : Env) (z : Value) (size len : Nat) (hs : (rawCells z).length = size) (h0 : 0 < size) :
    (Array.range (len * size)).map (fun i => z.cells[i % z.cells.size]!) = (denL E (zerosA z len)).toArray := by
  have hzs : z.cells.size = size := by rw [rawCells_den E z]; simp [denL_length, hs]
  have hzc : z.cells = (denL E (rawCells z)).toArray := rawCells_den E z
  rw [hzs]
  apply Array.ext'
  simp only [Array.toList_map, Array.toList_range]
  unfold zerosA
  induction len with
  | zero => simp [denL]
  | succ n ih =>
    rw [List.replicate_succ', List.flatten_append, denL_append, ← ih, Nat.succ_mul, List.range_add, List.map_append]
    congr 1
    simp only [List.map_map, List.flatten_singleton]
    apply List.ext_getElem?
    intro j
    simp only [List.getElem?_map, denL_getElem?]
    by_cases hj : j < size
    · have h2 : (n * size + j) % size = j := by rw [Nat.mul_comm, Nat.mul_add_mod]; exact Nat.mod_eq_of_lt hj
      have h3 : (rawCells z)[j]? = some ((rawCells z)[j]'(by omega)) := List.getElem?_eq_getElem (by omega)
      simp only [List.getElem?_range hj, Option.map_some, Function.comp, h2, hzc, h3]
      congr 1
      have h5 := denL_getElem? E (rawCells z) j
      rw [h3] at h5
      simp only [Option.map_some] at h5
      rw [Array.getElem!_eq_getD, Array.getD_eq_getD_getElem?, List.getElem?_toArray, h5]
      rfl
    · rw [List.getElem?_eq_none (by simp; omega), List.getElem?_eq_none (by omega)]
      rfl
theorem evBuildSlice_ok (H : HI B w0 E h nx w) {t : TypeId} {len : Nat} {parts : List (Nat × AV)} {r : OR} {s : Sem Next} (hh : evBuildSlice P h nx t len parts = some r)
    (hs : s = (do pure (.value (← Instr.buildSlice t len (parts.map fun p => (p.1, den E p.2)).toArray)))) : ORok B w0 E nx w P s r := by
  unfold evBuildSlice at hh
  split at hh
  · rename_i elem hu
    split at hh
    · rename_i size z hsz hz
      cases hc : (Nat.ble (len * size) 16777216 && Nat.beq (rawCells z).length size && Nat.blt 0 size) with
      | false => simp [hc] at hh
      | true =>
        simp only [hc, cond_true] at hh
        simp only [Bool.and_eq_true, Nat.ble_eq] at hc
        have h0 : 0 < size := blt_lt hc.2
        have h1 : (rawCells z).length = size := Nat.eq_of_beq_eq_true hc.1.2
        split at hh
        · rename_i cs hcs
          cases hb : bdL nx cs with
          | false => simp [hb] at hh
          | true =>
            simp only [hb, cond_true, Option.some.injEq] at hh
            subst hh
            refine ⟨blt_succ nx, Nat.le_succ _, _, _, Env.set_ext E nx w.heap.size 0, H.alloc hb, ?_⟩
            have h2 := fillA_ok E _ _ _ _ hcs
            have h3 := zeros_eq E z size len h1 h0
            have h4 : ¬ (len * size > 2 ^ 24) := by have := hc.1.1; omega
            subst hs
            by_cases hl : len * size = 0
            · have hl0 : len = 0 := by
                rcases Nat.mul_eq_zero.1 hl with h | h
                · exact h
                · omega
              subst hl0
              have h5 : zerosA z 0 = [] := by simp [zerosA]
              rw [h5] at h2
              simp only [denL] at h2
              have h6 : (Array.map (fun _ => (default : Value)) (Array.range 0)) = #[] := by apply Array.ext <;> simp
              simp [Instr.buildSlice, run_und hu, run_sizeT hsz, h6, h2, newRow, den, Env.set_ρ]
            · rw [← h3] at h2
              simp [Instr.buildSlice, run_und hu, run_sizeT hsz, h4, hl, run_zeroOf hz, h2, newRow, den, Env.set_ρ]
        · cases hh
    · cases hh
  · cases hh
end EngOps
end Go.Proofs.YtlpgfdhihimjaaaGreat.Eng
namespace Go.Proofs.YtlpgfdhihimjaaaGreat.Eng
section EngOps2
open Go Go.RowKit
variable {B : Nat} {w0 : World} {E : Env} {h : Heap} {nx : Nat} {w : World} {P : Program}

/-! ### store -/
def evStore (P : Program) (h : Heap) (t : TypeId) (a x : AV) : Option Heap :=
  match a with
  | .ptr n off =>
    match sizeT P t, look h n with
    | some k, some (.blk ty cs g) =>
      bif Nat.beq (cellsOf x).length k && Nat.ble (off + (cellsOf x).length) cs.length && (cellsOf x).all one then
        some (putH h n (.blk ty (setAt cs off (cellsOf x)) g)) else none
    | _, _ => none
  | _ => none
theorem evStore_ok (H : HI B w0 E h nx w) {t : TypeId} {a x : AV} {h' : Heap} (hb : bd nx x = true) (hh : evStore P h t a x = some h') :
    ∃ w', HI B w0 E h' nx w' ∧ (Instr.storeAt t (den E a) (den E x)).run P w = .ok () w' := by
  unfold evStore at hh
  split at hh
  · rename_i n off
    split at hh
    · rename_i k ty cs g hk hl
      cases hc : (Nat.beq (cellsOf x).length k && Nat.ble (off + (cellsOf x).length) cs.length && (cellsOf x).all one) with
      | false => simp [hc] at hh
      | true =>
        simp only [hc, cond_true, Option.some.injEq] at hh
        subst hh
        simp only [Bool.and_eq_true, Nat.ble_eq] at hc
        obtain ⟨⟨h1, h2⟩, h3⟩ := hc
        have h1 : (cellsOf x).length = k := Nat.eq_of_beq_eq_true h1
        obtain ⟨w', h4, h5⟩ := H.store (P := P) hl h2 (bd_cells hb) h3
        refine ⟨w', h5, ?_⟩
        have h6 : (den E x).cells.size = k := by rw [cells_den]; simp [denL_length, h1]
        have h7 : (den E x).cells.toList = denL E (cellsOf x) := by rw [cells_den]
        simp [Instr.storeAt, Instr.sureAddr, den, storeVar, run_sizeT hk, h6, h7, h4]
    · cases hh
  · cases hh

/-! ### parts -/
def evPart (P : Program) (t : TypeId) (cs : List AV) (off : Nat) : Option AV :=
  match isAggT P t with
  | some true =>
    match sizeT P t with
    | some k => some (.agg ((cs.drop off).take k))
    | none => none
  | some false => cs[off]?
  | none => none
theorem evPart_ok {t : TypeId} {cs : List AV} {off : Nat} {v : AV} (hh : evPart P t cs off = some v) (E : Env) (w : World) :
    (part t (denL E cs).toArray off).run P w = .ok (den E v) w := by
  unfold evPart at hh
  split at hh
  · rename_i ha
    split at hh
    · rename_i k hk
      injection hh with hh
      subst hh
      simp [part, run_isAgg ha, run_sizeT hk, den, denL_take, denL_drop, List.extract_eq_take_drop]
    · cases hh
  · rename_i ha
    have h1 := denL_getElem? E cs off
    rw [hh] at h1
    simp [part, run_isAgg ha, h1]
  · cases hh
def evField (P : Program) (t : TypeId) (x : AV) (f : Nat) : Option AV :=
  match P.underlying t, view x with
  | some (.struct fields), .agg cs =>
    match fields[f]? with
    | some fd => evPart P fd.type cs fd.offset
    | none => none
  | _, _ => none
theorem evField_ok {t : TypeId} {x v : AV} {f : Nat} (hh : evField P t x f = some v) (E : Env) (w : World) : (Instr.field t (den E x) f).run P w = .ok (den E v) w := by
  unfold evField at hh
  split at hh
  · rename_i fields cs hu hv
    split at hh
    · rename_i fd hf
      have h1 := evPart_ok hh E w
      rw [← den_view E x, hv]
      simp [Instr.field, run_und hu, hf, den, asAgg, h1]
    · cases hh
  · cases hh
def evFieldAddr (P : Program) (s : TypeId) (x : AV) (f : Nat) : Option AV :=
  match P.underlying s, x with
  | some (.struct fields), .ptr n off =>
    match fields[f]? with
    | some fd => match sizeT P fd.type with
      | some k => bif Nat.beq k 0 then none else some (.ptr n (off + fd.offset))
      | none => none
    | none => none
  | _, _ => none
theorem run_fieldPlace {fd : Field} {k : Nat} (hk : sizeT P fd.type = some k) (h0 : k ≠ 0) (g off : Nat) (w : World) :
    (fieldPlace ⟨g, off, none⟩ fd).run P w = .ok ⟨g, off + fd.offset, none⟩ w := by
  simp [fieldPlace, run_sizeT hk, h0, addr_add]
theorem evFieldAddr_ok {s : TypeId} {x v : AV} {f : Nat} (hh : evFieldAddr P s x f = some v) (E : Env) (w : World) : (Instr.fieldAt s (den E x) f).run P w = .ok (den E v) w := by
  unfold evFieldAddr at hh
  split at hh
  · rename_i fields n off hu
    split at hh
    · rename_i fd hf
      split at hh
      · rename_i k hk
        cases hb : Nat.beq k 0 with
        | true => simp [hb] at hh
        | false =>
          simp only [hb, cond_false, Option.some.injEq] at hh
          subst hh
          have h0 : k ≠ 0 := fun e => by subst e; simp at hb
          simp [Instr.fieldAt, run_und hu, hf, den, Instr.sureAddr, run_fieldPlace hk h0]
      · cases hh
    · cases hh
  · cases hh
def evIndexAddr (P : Program) (t : TypeId) (x i : AV) : Option AV :=
  match P.underlying t, i with
  | some (.slice elem), .raw (.int _ k) =>
    match sizeT P elem, x with
    | some sz, .slc n off len _ => bif decide (0 ≤ k) && decide (k < len) then some (.ptr n (off + k.toNat * sz)) else none
    | some sz, .gsl n len => bif decide (0 ≤ k) && decide (k < len) then some (.ptr n (0 + k.toNat * sz)) else none
    | _, _ => none
  | _, _ => none
theorem evIndexAddr_ok {t : TypeId} {x i v : AV} (hh : evIndexAddr P t x i = some v) (E : Env) (w : World) : (Instr.indexAt t (den E x) (den E i)).run P w = .ok (den E v) w := by
  unfold evIndexAddr at hh
  split at hh
  · rename_i elem kd k hu
    split at hh
    · rename_i sz n off len cap hs
      cases hc : (decide (0 ≤ k) && decide (k < len)) with
      | false => simp [hc] at hh
      | true =>
        simp only [hc, cond_true, Option.some.injEq] at hh
        subst hh
        simp only [Bool.and_eq_true, decide_eq_true_eq] at hc
        simp [Instr.indexAt, asIntOf, den, run_und hu, hc, run_sizeT hs, addr_add]
    · rename_i sz n len hs
      cases hc : (decide (0 ≤ k) && decide (k < len)) with
      | false => simp [hc] at hh
      | true =>
        simp only [hc, cond_true, Option.some.injEq] at hh
        subst hh
        simp only [Bool.and_eq_true, decide_eq_true_eq] at hc
        simp [Instr.indexAt, asIntOf, den, run_und hu, hc, run_sizeT hs, addr_add]
    · cases hh
  · cases hh
def evExtract (x : AV) (i : Nat) : Option AV :=
  match view x with
  | .tup vs => vs[i]?
  | _ => none
theorem evExtract_ok {x v : AV} {i : Nat} (hh : evExtract x i = some v) (E : Env) (w : World) : (Instr.extract (den E x) i).run P w = .ok (den E v) w := by
  unfold evExtract at hh
  split at hh
  · rename_i vs hv
    have h1 := denL_getElem? E vs i
    rw [hh] at h1
    rw [← den_view E x, hv]
    simp [Instr.extract, den, h1]
  · cases hh

/-! ### operators -/
def pureOf (s : Sem Value) : Option Value :=
  match s with
  | .pure v => some v
  | _ => none
theorem pureOf_ok {s : Sem Value} {v : Value} (hh : pureOf s = some v) (w : World) : s.run P w = .ok v w := by
  cases s <;> simp [pureOf] at hh
  subst hh
  rfl
def isNilC : Operand → Bool
  | .const .nilIface => true
  | _ => false
def eqA (P : Program) (t : TypeId) (x y : AV) (cx cy : Bool) : Option Bool :=
  match P.underlying t, x, y with
  | some .bool, .raw (.bool a), .raw (.bool b) => some (a == b)
  | some (.pointer _), .raw (.pointer none), .raw (.pointer none) => some true
  | some (.pointer _), .ptr _ _, .raw (.pointer none) => some false
  | some (.pointer _), .raw (.pointer none), .ptr _ _ => some false
  | some (.slice _), .raw (.slice none _ _), .raw (.slice none _ _) => some true
  | some (.slice _), .slc _ _ _ _, .raw (.slice none _ _) => some false
  | some (.slice _), .gsl _ _, .raw (.slice none _ _) => some false
  | some (.interface _), x, y =>
    match view x, view y with
    | .raw .nilIface, .raw .nilIface => bif cx || cy then some true else none
    | .raw .nilIface, .iface _ _ => some false
    | .iface _ _, .raw .nilIface => some false
    | .iface tx vx, .iface ty vy =>
      bif Nat.beq tx ty then
        match P.info? tx, P.underlying tx, vx, vy with
        | some i, some (.int _), .raw (.int k a), .raw (.int k' b) => bif i.comparable && decide (k = k') then some (a == b) else none
        | some i, some .bool, .raw (.bool a), .raw (.bool b) => bif i.comparable then some (a == b) else none
        | some i, some .string, .raw (.string a), .raw (.string b) => bif i.comparable then some (a == b) else none
        | _, _, _, _ => none
      else some false
    | _, _ => none
  | _, _, _ => none
theorem equal_of {t : TypeId} {x y : Value} {b : Bool} {w : World} (hh : ∀ d, (Op.equalIn (d + 1 + 1) t x y).run P w = .ok b w) : (Op.equal t x y).run P w = .ok b w := hh 9998
theorem eqIn_bool {d : Nat} {t : TypeId} (hu : P.underlying t = some .bool) (a b : Bool) (w : World) : (Op.equalIn (d + 1) t (.bool a) (.bool b)).run P w = .ok (a == b) w := by
  unfold Op.equalIn; rw [Sem.run_bind, run_und hu]; rfl
theorem eqIn_string {d : Nat} {t : TypeId} (hu : P.underlying t = some .string) (a b : ByteArray) (w : World) : (Op.equalIn (d + 1) t (.string a) (.string b)).run P w = .ok (a == b) w := by
  unfold Op.equalIn; rw [Sem.run_bind, run_und hu]; rfl
theorem eqIn_int {d : Nat} {t : TypeId} {k0 : IntKind} (hu : P.underlying t = some (.int k0)) (k : IntKind) (a b : Int) (w : World) : (Op.equalIn (d + 1) t (.int k a) (.int k b)).run P w = .ok (a == b) w := by
  unfold Op.equalIn; rw [Sem.run_bind, run_und hu]
  simp only [Result.andThen_ok, if_true]
  rfl
theorem eqIn_ptr_nn {d : Nat} {t e : TypeId} (hu : P.underlying t = some (.pointer e)) (b : Option Addr) (w : World) : (Op.equalIn (d + 1) t (.pointer none) (.pointer b)).run P w = .ok b.isNone w := by
  unfold Op.equalIn; rw [Sem.run_bind, run_und hu]; rfl
theorem eqIn_ptr_sn {d : Nat} {t e : TypeId} (hu : P.underlying t = some (.pointer e)) (a : Addr) (w : World) : (Op.equalIn (d + 1) t (.pointer (some a)) (.pointer none)).run P w = .ok false w := by
  unfold Op.equalIn; rw [Sem.run_bind, run_und hu]; rfl
theorem eqIn_slice_nn {d : Nat} {t e : TypeId} (hu : P.underlying t = some (.slice e)) (n c m k : Nat) (b : Option Addr) (w : World) : (Op.equalIn (d + 1) t (.slice none n c) (.slice b m k)).run P w = .ok b.isNone w := by
  unfold Op.equalIn; rw [Sem.run_bind, run_und hu]; rfl
theorem eqIn_slice_sn {d : Nat} {t e : TypeId} (hu : P.underlying t = some (.slice e)) (n c m k : Nat) (a : Addr) (w : World) : (Op.equalIn (d + 1) t (.slice (some a) n c) (.slice none m k)).run P w = .ok false w := by
  unfold Op.equalIn; rw [Sem.run_bind, run_und hu]; rfl
theorem eqIn_nil_nil {d : Nat} {t : TypeId} {ms : Array (String × TypeId)} (hu : P.underlying t = some (.interface ms)) (w : World) : (Op.equalIn (d + 1) t .nilIface .nilIface).run P w = .ok true w := by
  unfold Op.equalIn; rw [Sem.run_bind, run_und hu]; rfl
theorem eqIn_nil_iface {d : Nat} {t u : TypeId} {v : Value} {ms : Array (String × TypeId)} (hu : P.underlying t = some (.interface ms)) (w : World) : (Op.equalIn (d + 1) t .nilIface (.iface u v)).run P w = .ok false w := by
  unfold Op.equalIn; rw [Sem.run_bind, run_und hu]; rfl
theorem eqIn_iface_nil {d : Nat} {t u : TypeId} {v : Value} {ms : Array (String × TypeId)} (hu : P.underlying t = some (.interface ms)) (w : World) : (Op.equalIn (d + 1) t (.iface u v) .nilIface).run P w = .ok false w := by
  unfold Op.equalIn; rw [Sem.run_bind, run_und hu]; rfl
theorem eqIn_iface_ne {d : Nat} {t u u' : TypeId} {v v' : Value} {ms : Array (String × TypeId)} (hu : P.underlying t = some (.interface ms)) (hne : u ≠ u') (w : World) : (Op.equalIn (d + 1) t (.iface u v) (.iface u' v')).run P w = .ok false w := by
  unfold Op.equalIn; rw [Sem.run_bind, run_und hu]
  simp only [Result.andThen_ok]
  rw [if_pos hne]
  rfl
theorem eqIn_iface_eq {d : Nat} {t u : TypeId} {v v' : Value} {ms : Array (String × TypeId)} {i : TypeInfo} (hu : P.underlying t = some (.interface ms)) (hi : P.info? u = some i) (hc : i.comparable = true) (w : World) :
    (Op.equalIn (d + 1) t (.iface u v) (.iface u v')).run P w = (Op.equalIn d u v v').run P w := by
  have h1 : (typeInfo u).run P w = .ok i w := by simp [typeInfo, hi]
  conv => lhs; unfold Op.equalIn
  rw [Sem.run_bind, run_und hu]
  simp only [Result.andThen_ok]
  rw [if_neg (by simp), Sem.run_bind, h1]
  simp only [Result.andThen_ok, hc, Bool.not_true, Bool.false_eq_true, if_false]
theorem eqA_ok {t : TypeId} {x y : AV} {cx cy b : Bool} (hh : eqA P t x y cx cy = some b) (E : Env) (w : World) : (Op.equal t (den E x) (den E y)).run P w = .ok b w := by
  refine equal_of fun d => ?_
  unfold eqA at hh
  split at hh
  · rename_i a c hu
    injection hh with hh; subst hh
    exact eqIn_bool hu _ _ w
  · rename_i hu
    injection hh with hh; subst hh
    exact eqIn_ptr_nn hu _ w
  · rename_i hu
    injection hh with hh; subst hh
    exact eqIn_ptr_sn hu _ w
  · rename_i hu
    injection hh with hh; subst hh
    exact eqIn_ptr_nn hu _ w
  · rename_i hu
    injection hh with hh; subst hh
    exact eqIn_slice_nn hu _ _ _ _ _ w
  · rename_i hu
    injection hh with hh; subst hh
    exact eqIn_slice_sn hu _ _ _ _ _ w
  · rename_i hu
    injection hh with hh; subst hh
    exact eqIn_slice_sn hu _ _ _ _ _ w
  · rename_i x y _ _ _ _ hu
    rw [← den_view E x, ← den_view E y]
    split at hh
    · rename_i hx hy
      have hb : b = true := by cases cx <;> cases cy <;> simp at hh <;> first | exact hh | exact hh.symm
      subst hb
      rw [hx, hy]
      exact eqIn_nil_nil hu w
    · rename_i hx hy
      injection hh with hh; subst hh
      rw [hx, hy]
      exact eqIn_nil_iface hu w
    · rename_i hx hy
      injection hh with hh; subst hh
      rw [hx, hy]
      exact eqIn_iface_nil hu w
    · rename_i tx vx ty vy hx hy
      rw [hx, hy]
      cases ht : Nat.beq tx ty with
      | false =>
        simp only [ht, cond_false, Option.some.injEq] at hh
        subst hh
        have hne : tx ≠ ty := fun e => by subst e; simp at ht
        exact eqIn_iface_ne hu hne w
      | true =>
        simp only [ht, cond_true] at hh
        have he : tx = ty := Nat.eq_of_beq_eq_true ht
        subst he
        split at hh
        · rename_i i k0 k a k' c hi hu2
          cases hc : (i.comparable && decide (k = k')) with
          | false => simp [hc] at hh
          | true =>
            simp only [hc, cond_true, Option.some.injEq] at hh
            simp only [Bool.and_eq_true, decide_eq_true_eq] at hc
            obtain ⟨h1, h2⟩ := hc
            subst h2; subst hh
            exact (eqIn_iface_eq hu hi h1 w).trans (eqIn_int hu2 _ _ _ w)
        · rename_i i a c hi hu2
          cases hc : i.comparable with
          | false => simp [hc] at hh
          | true =>
            simp only [hc, cond_true, Option.some.injEq] at hh
            subst hh
            exact (eqIn_iface_eq hu hi hc w).trans (eqIn_bool hu2 _ _ w)
        · rename_i i a c hi hu2
          cases hc : i.comparable with
          | false => simp [hc] at hh
          | true =>
            simp only [hc, cond_true, Option.some.injEq] at hh
            subst hh
            exact (eqIn_iface_eq hu hi hc w).trans (eqIn_string hu2 _ _ w)
        · cases hh
    · cases hh
  · cases hh
end EngOps2
end Go.Proofs.YtlpgfdhihimjaaaGreat.Eng
namespace Go.Proofs.YtlpgfdhihimjaaaGreat.Eng
section EngOps3
open Go Go.RowKit
variable {B : Nat} {w0 : World} {E : Env} {h : Heap} {nx : Nat} {w : World} {P : Program}

/-! ### binOp with its guard -/
def eqable : Value → Bool
  | .bool _ | .pointer _ | .slice _ _ _ | .iface _ _ | .nilIface => true
  | _ => false
theorem bin_eql {t : TypeId} {x y : Value} (hx : eqable x = true) : binOp .eql t x y = (do pure (.bool (← Op.equal t x y))) := by
  cases x <;> simp [eqable] at hx <;> (cases y <;> rfl)
theorem bin_neq {t : TypeId} {x y : Value} (hx : eqable x = true) : binOp .neq t x y = (do pure (.bool (!(← Op.equal t x y)))) := by
  cases x <;> simp [eqable] at hx <;> (cases y <;> rfl)
def isConstO : Operand → Bool
  | .const _ => true
  | _ => false
def guardOk (x y : Operand) (a b : AV) : Bool :=
  match view a, view b with
  | .raw .nilIface, .raw .nilIface => isConstO x || isConstO y
  | .raw .nilIface, .iface _ _ => true
  | .iface _ _, _ => true
  | .raw (.bool _), _ => true
  | .raw (.pointer _), _ => true
  | .raw (.slice _ _ _), _ => true
  | .ptr _ _, _ => true
  | .slc _ _ _ _, _ => true
  | .gsl _ _, _ => true
  | _, _ => false
theorem guardOk_ok {op : BinOp} {t : TypeId} {x y : Operand} {a b : AV} (hh : guardOk x y a b = true) (E : Env) (w : World) :
    (eqGuard op t x y (den E a) (den E b)).run P w = .ok () w ∧ eqable (den E a) = true := by
  unfold guardOk at hh
  rw [← den_view E a, ← den_view E b]
  split at hh
  · rename_i ha hb
    rw [ha, hb]
    refine ⟨?_, rfl⟩
    cases x <;> simp [isConstO] at hh <;> first | (simp only [den, eqGuard_nil_constL]; rfl) | (cases y <;> simp [isConstO] at hh; simp only [den, eqGuard_nil_constR]; rfl)
  · rename_i ha hb
    rw [ha, hb]; exact ⟨by simp only [den, eqGuard_nil_iface]; rfl, rfl⟩
  · rename_i ha
    rw [ha]; exact ⟨by simp only [den, eqGuard_at_iface]; rfl, rfl⟩
  · rename_i ha
    rw [ha]; exact ⟨by simp only [den, eqGuard_at_bool]; rfl, rfl⟩
  · rename_i ha
    rw [ha]; exact ⟨by simp only [den, eqGuard_at_pointer]; rfl, rfl⟩
  · rename_i ha
    rw [ha]; exact ⟨by simp only [den, eqGuard_at_slice]; rfl, rfl⟩
  · rename_i ha
    rw [ha]; exact ⟨by simp only [den, eqGuard_at_pointer]; rfl, rfl⟩
  · rename_i ha
    rw [ha]; exact ⟨by simp only [den, eqGuard_at_slice]; rfl, rfl⟩
  · rename_i ha
    rw [ha]; exact ⟨by simp only [den, eqGuard_at_slice]; rfl, rfl⟩
  · cases hh
def evBin (P : Program) (op : BinOp) (t : TypeId) (x y : Operand) (a b : AV) : Option AV :=
  match a, b with
  | .raw (.int k m), .raw (.int k' n) =>
    match pureOf (binOp op t (.int k m) (.int k' n)) with
    | some v => some (.raw v)
    | none => none
  | .raw (.string s), .raw (.string s') =>
    match pureOf (binOp op t (.string s) (.string s')) with
    | some v => some (.raw v)
    | none => none
  | _, _ =>
    bif guardOk x y a b then
      match op with
      | .eql => match eqA P t a b (isConstO x) (isConstO y) with
        | some r => some (.raw (.bool r))
        | none => none
      | .neq => match eqA P t a b (isConstO x) (isConstO y) with
        | some r => some (.raw (.bool (!r)))
        | none => none
      | _ => none
    else none
theorem evBin_ok {op : BinOp} {t : TypeId} {x y : Operand} {a b v : AV} (hh : evBin P op t x y a b = some v) (E : Env) (w : World) :
    ((do eqGuard op t x y (den E a) (den E b); binOp op t (den E a) (den E b)) : Sem Value).run P w = .ok (den E v) w := by
  unfold evBin at hh
  split at hh
  · rename_i k m k' n
    split at hh
    · rename_i u hp
      injection hh with hh; subst hh
      simp only [den, eqGuard_at_int]
      rw [Sem.run_bind, Sem.run_pure, Result.andThen_ok]
      exact pureOf_ok hp w
    · cases hh
  · rename_i s s'
    split at hh
    · rename_i u hp
      injection hh with hh; subst hh
      simp only [den, eqGuard_at_string]
      rw [Sem.run_bind, Sem.run_pure, Result.andThen_ok]
      exact pureOf_ok hp w
    · cases hh
  · cases hg : guardOk x y a b with
    | false => simp [hg] at hh
    | true =>
      simp only [hg, cond_true] at hh
      obtain ⟨h1, h2⟩ := guardOk_ok (P := P) (op := op) (t := t) hg E w
      rw [Sem.run_bind, h1, Result.andThen_ok]
      split at hh
      · split at hh
        · rename_i r hr
          injection hh with hh; subst hh
          rw [bin_eql h2, Sem.run_bind, eqA_ok hr E w]
          rfl
        · cases hh
      · split at hh
        · rename_i r hr
          injection hh with hh; subst hh
          rw [bin_neq h2, Sem.run_bind, eqA_ok hr E w]
          rfl
        · cases hh
      · cases hh

/-! ### type assertions -/
def holdsA (ok : Bool) (v : AV) : AV := bif ok then .tup [v, .raw (.bool true)] else v
def hdl (P : Program) (t : Option TypeId) : Value := match t with | some t => typeHandle P t | none => .pointer none
def failsA (P : Program) (h : Heap) (nx : Nat) (asserted : TypeId) (ok : Bool) (static dynamic : Option TypeId) (missing : String) : Option OR :=
  bif ok then
    match zeroOf P asserted with
    | some z => some (.val (.tup [.raw z, .raw (.bool false)]) h nx)
    | none => none
  else
    match P.underlying P.rt.typeAssertionError with
    | some (.pointer e) =>
      some (.pan (.iface P.rt.typeAssertionError (.ptr nx 0))
        ((nx, .blk e [.raw (hdl P static), .raw (hdl P dynamic), .raw (hdl P (some asserted)), .raw (strVal missing)] none) :: h) (nx + 1))
    | _ => none
def isIfaceD : TypeDesc → Bool
  | .interface _ => true
  | _ => false
def hasAll (want : Array (String × TypeId)) (got : Array Method) : Bool := want.toList.all fun p => got.toList.any fun m => m.name == p.1 && m.sig == p.2
theorem hasAll_none {want : Array (String × TypeId)} {got : Array Method} (hh : hasAll want got = true) : Instr.missingMethod want got = none := by
  have h1 : (want.toList.filter fun (name, sig) => !got.any fun m => m.name == name && m.sig == sig) = [] := by
    rw [List.filter_eq_nil_iff]
    rintro ⟨n, t⟩ hm
    have := List.all_eq_true.1 hh (n, t) hm
    simp only [Array.any_toList] at this
    simp [this]
  unfold Instr.missingMethod
  simp only [h1]
  rfl
theorem least_cons (s : String) (r : List String) : ∃ x, Instr.least (s :: r) = some x := ⟨_, rfl⟩
theorem least_some (q : String → Bool) (f : String → String) (s : String) (r : List String) : ∃ x, (Instr.least ((s :: r).filter (not ∘ q)) <|> Instr.least (((s :: r).filter q).map f)) = some x := by
  cases hq : q s with
  | false =>
    have h1 : (s :: r).filter (not ∘ q) = s :: r.filter (not ∘ q) := by simp [List.filter_cons, hq]
    rw [h1]
    obtain ⟨x, hx⟩ := least_cons s (r.filter (not ∘ q))
    exact ⟨x, by rw [hx]; rfl⟩
  | true =>
    have h1 : (s :: r).filter q = s :: r.filter q := by simp [List.filter_cons, hq]
    rw [h1, List.map_cons]
    cases Instr.least ((s :: r).filter (not ∘ q)) with
    | some y => exact ⟨y, rfl⟩
    | none => exact least_cons _ _
theorem hasAll_some {want : Array (String × TypeId)} {got : Array Method} (hh : hasAll want got = false) : Instr.missingMethod want got = some ((Instr.missingMethod want got).getD "") := by
  have h1 : (want.toList.filter fun (name, sig) => !got.any fun m => m.name == name && m.sig == sig) ≠ [] := by
    intro h
    rw [List.filter_eq_nil_iff] at h
    have : hasAll want got = true := by
      unfold hasAll
      rw [List.all_eq_true]
      rintro ⟨n, t⟩ hm
      have := h (n, t) hm
      simp only [Array.any_toList]
      simpa using this
    rw [hh] at this
    cases this
  have h2 : ∃ x, Instr.missingMethod want got = some x := by
    unfold Instr.missingMethod
    simp only
    generalize (want.toList.filter fun (name, sig) => !got.any fun m => m.name == name && m.sig == sig) = l at h1
    obtain ⟨p, r, rfl⟩ := List.exists_cons_of_ne_nil h1
    rw [List.partition_eq_filter_filter]
    simp only [List.map_cons]
    exact least_some _ _ _ _
  obtain ⟨x, hx⟩ := h2
  rw [hx]
  rfl
def evAssert (P : Program) (h : Heap) (nx : Nat) (x : AV) (xType asserted : TypeId) (ok : Bool) : Option OR :=
  match P.underlying asserted with
  | some d =>
    match d, view x with
    | .interface _, .raw .nilIface => failsA P h nx asserted ok none none ""
    | .interface want, .iface t v =>
      match P.info? t with
      | some i =>
        bif hasAll want i.methods then some (.val (holdsA ok x) h nx)
        else failsA P h nx asserted ok none (some t) ((Instr.missingMethod want i.methods).getD "")
      | none => none
    | .interface _, _ => none
    | _, .raw .nilIface => failsA P h nx asserted ok (some xType) none ""
    | _, .iface t v => bif Nat.beq t asserted then some (.val (holdsA ok v) h nx) else failsA P h nx asserted ok (some xType) (some t) ""
    | _, _ => none
  | none => none

def nextOf (s : Sem Value) : Sem Next := do pure (.value (← s))
theorem run_nextOf {s : Sem Value} {v : Value} {w w' : World} (hh : s.run P w = .ok v w') : (nextOf s).run P w = .ok (.value v) w' := by
  unfold nextOf; rw [Sem.run_bind, hh]; rfl
theorem run_nextOf_panic {s : Sem Value} {v : Value} {w w' : World} (hh : s.run P w = .halt (.panic v) w') : (nextOf s).run P w = .halt (.panic v) w' := by
  unfold nextOf; rw [Sem.run_bind, hh]; rfl

theorem holdsA_den (ok : Bool) (v : AV) : den E (holdsA ok v) = if ok then .tuple #[den E v, .bool true] else den E v := by
  cases ok <;> simp [holdsA, den, denL]
def failsS (asserted : TypeId) (ok : Bool) (static dynamic : Option TypeId) (missing : String) : Sem Value := do
  if ok then pure (.tuple #[← zeroValue asserted, .bool false]) else runtimePanic (.typeAssertion static dynamic asserted missing)
theorem failsA_ok (H : HI B w0 E h nx w) {asserted : TypeId} {ok : Bool} {static dynamic : Option TypeId} {missing : String} {r : OR} {s : Sem Value}
    (hh : failsA P h nx asserted ok static dynamic missing = some r) (hs : s.run P w = (failsS asserted ok static dynamic missing).run P w) : ORok B w0 E nx w P (nextOf s) r := by
  unfold failsA at hh
  cases ok with
  | true =>
    simp only [cond_true] at hh
    split at hh
    · rename_i z hz
      injection hh with hh; subst hh
      refine ORok.pure_ H (by simp [bd, bdL]) (run_nextOf ?_)
      rw [hs]
      simp [failsS, run_zeroOf hz, den, denL]
    · cases hh
  | false =>
    simp only [cond_false] at hh
    split at hh
    · rename_i e he
      injection hh with hh; subst hh
      refine ⟨by simp only [bd]; exact blt_succ nx, Nat.le_succ _, _, _, Env.set_ext E nx w.heap.size 0, H.alloc (by simp [bd, bdL]), run_nextOf_panic ?_⟩
      rw [hs]
      simp only [failsS, Bool.false_eq_true, if_false, runtimePanic, Sem.run_bind, run_program, Result.andThen_ok]
      have h1 : (elemOf P.rt.typeAssertionError).run P w = .ok e w := by simp [elemOf, run_und he]
      cases static <;> cases dynamic <;> simp [h1, newVar, newRow, Value.cells, den, denL, Env.set_ρ, hdl]
    · cases hh
theorem evAssert_ok (H : HI B w0 E h nx w) {x : AV} (hb : bd nx x = true) {xType asserted : TypeId} {ok : Bool} {r : OR} (hh : evAssert P h nx x xType asserted ok = some r) :
    ORok B w0 E nx w P (nextOf (Instr.typeAssert (den E x) xType asserted ok)) r := by
  have hbv := bd_view hb
  unfold evAssert at hh
  split at hh
  · rename_i d hu
    split at hh
    · rename_i ms hv
      refine failsA_ok H hh ?_
      rw [← den_view E x, hv]
      simp only [Instr.typeAssert, den]
      rw [Sem.run_bind, run_und hu]
      rfl
    · rename_i want t v hv
      split at hh
      · rename_i i hi
        have h1 : (typeInfo t).run P w = .ok i w := by simp [typeInfo, hi]
        cases hall : hasAll want i.methods with
        | true =>
          have hm := hasAll_none hall
          simp only [hall, cond_true, Option.some.injEq] at hh
          subst hh
          refine ORok.pure_ H ?_ (run_nextOf ?_)
          · cases ok <;> simp [holdsA, bd, bdL, hb]
          · rw [holdsA_den, ← den_view E x, hv]
            simp only [Instr.typeAssert, den]
            rw [Sem.run_bind, run_und hu]
            simp only [Result.andThen_ok, Sem.run_bind, h1, hm]
            cases ok <;> rfl
        | false =>
          have hm := hasAll_some hall
          simp only [hall, cond_false] at hh
          refine failsA_ok H hh ?_
          generalize (Instr.missingMethod want i.methods).getD "" = m at hm
          rw [← den_view E x, hv]
          simp only [Instr.typeAssert, den]
          rw [Sem.run_bind, run_und hu]
          simp only [Result.andThen_ok, Sem.run_bind, h1, hm]
          rfl
      · cases hh
    · cases hh
    · rename_i d _ _ hnot hv
      refine failsA_ok H hh ?_
      rw [← den_view E x, hv]
      simp only [Instr.typeAssert, den]
      rw [Sem.run_bind, run_und hu]
      cases d <;> first | rfl | (exact absurd rfl (hnot _))
    · rename_i d _ _ t v hnot hv
      have hbv' : bd nx v = true := by rw [hv] at hbv; simpa [bd] using hbv
      cases ht : Nat.beq t asserted with
      | true =>
        simp only [ht, cond_true, Option.some.injEq] at hh
        subst hh
        have he : t = asserted := Nat.eq_of_beq_eq_true ht
        subst he
        refine ORok.pure_ H ?_ (run_nextOf ?_)
        · cases ok <;> simp [holdsA, bd, bdL, hbv']
        · rw [holdsA_den, ← den_view E x, hv]
          simp only [Instr.typeAssert, den]
          rw [Sem.run_bind, run_und hu]
          cases d <;> first | (simp only [Result.andThen_ok, if_true]; cases ok <;> rfl) | (exact absurd rfl (hnot _))
      | false =>
        simp only [ht, cond_false] at hh
        have hne : t ≠ asserted := fun e => by subst e; simp at ht
        refine failsA_ok H hh ?_
        rw [← den_view E x, hv]
        simp only [Instr.typeAssert, den]
        rw [Sem.run_bind, run_und hu]
        cases d <;> first | (simp only [Result.andThen_ok, hne, if_false]; rfl) | (exact absurd rfl (hnot _))
    · cases hh
  · cases hh
end EngOps3
end Go.Proofs.YtlpgfdhihimjaaaGreat.Eng
namespace Go.Proofs.YtlpgfdhihimjaaaGreat.Eng
section EngOps4
open Go Go.RowKit
variable {B : Nat} {w0 : World} {E : Env} {h : Heap} {nx : Nat} {w : World} {P : Program}

/-! ### methods -/
inductive APl where
  | val (v : AV)
  | var (n off : Nat)
def denPl (E : Env) : APl → Place
  | .val v => .val (den E v)
  | .var n off => .var ⟨E.ρ n, off, none⟩
def plGet (P : Program) (h : Heap) (t : TypeId) : APl → Option AV
  | .val v => some v
  | .var n off => evLoadAt P h t n off
theorem plGet_ok (H : HI B w0 E h nx w) {t : TypeId} {x : APl} {v : AV} (hh : plGet P h t x = some v) : ((denPl E x).get t).run P w = .ok (den E v) w := by
  cases x with
  | val u => simp only [plGet, Option.some.injEq] at hh; subst hh; rfl
  | var n off => exact (evLoadAt_ok H hh).1
def followA (P : Program) (h : Heap) : List FieldStep → TypeId → APl → Option (TypeId × APl)
  | [], t, x => some (t, x)
  | s :: rest, t, x =>
    match P.underlying s.struct with
    | some (.struct fields) =>
      match fields[s.index]? with
      | some f =>
        match sizeT P f.type with
        | some k =>
          bif s.deref then
            match plGet P h t x with
            | some (.ptr n off) => bif Nat.beq k 0 then none else followA P h rest f.type (.var n (off + f.offset))
            | _ => none
          else
            match x with
            | .var n off => bif Nat.beq k 0 then none else followA P h rest f.type (.var n (off + f.offset))
            | .val v =>
              match view v with
              | .agg cs => match evPart P f.type cs f.offset with
                | some p => followA P h rest f.type (.val p)
                | none => none
              | _ => none
        | none => none
      | none => none
    | _ => none
theorem followA_ok (H : HI B w0 E h nx w) : ∀ (l : List FieldStep) (t : TypeId) (x : APl) (t' : TypeId) (x' : APl), followA P h l t x = some (t', x') →
    (follow l t (denPl E x)).run P w = .ok (t', denPl E x') w
  | [], t, x, t', x', hh => by
    simp only [followA, Option.some.injEq, Prod.mk.injEq] at hh
    obtain ⟨rfl, rfl⟩ := hh
    rfl
  | s :: rest, t, x, t', x', hh => by
    simp only [followA] at hh
    split at hh
    · rename_i fields hu
      split at hh
      · rename_i f hf
        split at hh
        · rename_i k hk
          unfold follow
          rw [Sem.run_bind, run_und hu]
          simp only [Result.andThen_ok, hf]
          cases hd : s.deref with
          | true =>
            simp only [hd, cond_true] at hh
            split at hh
            · rename_i n off hg
              cases hb : Nat.beq k 0 with
              | true => simp [hb] at hh
              | false =>
                simp only [hb, cond_false] at hh
                have h0 : k ≠ 0 := fun e => by subst e; simp at hb
                have ih : (follow rest f.type (.var ⟨E.ρ n, off + f.offset, none⟩)).run P w = .ok (t', denPl E x') w := followA_ok H rest f.type _ t' x' hh
                simp only [if_true]
                rw [Sem.run_bind, plGet_ok H hg]
                simp only [Result.andThen_ok, den, asAddr, Sem.run_pure, Sem.run_bind, run_fieldPlace hk h0]
                exact ih
            · cases hh
          | false =>
            simp only [hd, cond_false] at hh
            simp only [Bool.false_eq_true, if_false]
            cases x with
            | var n off =>
              simp only at hh
              cases hb : Nat.beq k 0 with
              | true => simp [hb] at hh
              | false =>
                simp only [hb, cond_false] at hh
                have h0 : k ≠ 0 := fun e => by subst e; simp at hb
                have ih : (follow rest f.type (.var ⟨E.ρ n, off + f.offset, none⟩)).run P w = .ok (t', denPl E x') w := followA_ok H rest f.type _ t' x' hh
                show (fieldPlace ⟨E.ρ n, off, none⟩ f >>= fun a => follow rest f.type (.var a)).run P w = _
                rw [Sem.run_bind, run_fieldPlace hk h0]
                exact ih
            | val v =>
              simp only at hh
              split at hh
              · rename_i cs hv
                split at hh
                · rename_i p hp
                  have ih : (follow rest f.type (.val (den E p))).run P w = .ok (t', denPl E x') w := followA_ok H rest f.type _ t' x' hh
                  have e : denPl E (.val v) = .val (.agg (denL E cs).toArray) := by
                    show Place.val (den E v) = _
                    rw [← den_view E v, hv]; rfl
                  rw [e]
                  show (part f.type (denL E cs).toArray f.offset >>= fun a => follow rest f.type (.val a)).run P w = _
                  rw [Sem.run_bind, evPart_ok hp E w]
                  exact ih
                · cases hh
              · cases hh
        · cases hh
      · cases hh
    · cases hh
def isPtrD : TypeDesc → Option TypeId
  | .pointer e => some e
  | _ => none
def recvA (P : Program) (h : Heap) (xt : TypeId) (x : APl) (ptrRecv : Bool) : Option AV :=
  match P.underlying xt with
  | some d =>
    match isPtrD d, ptrRecv, x with
    | some _, true, x => plGet P h xt x
    | some e, false, x =>
      match plGet P h xt x with
      | some (.ptr n off) => evLoadAt P h e n off
      | _ => none
    | none, true, .var n off => some (.ptr n off)
    | none, true, .val _ => none
    | none, false, x => plGet P h xt x
  | none => none
theorem recvA_ok (H : HI B w0 E h nx w) {xt : TypeId} {x : APl} {b : Bool} {v : AV} (wr : Option String) (hh : recvA P h xt x b = some v) :
    (receiverAt xt (denPl E x) b wr).run P w = .ok (den E v) w := by
  unfold recvA at hh
  split at hh
  · rename_i d hu
    unfold receiverAt
    rw [Sem.run_bind, run_und hu]
    simp only [Result.andThen_ok]
    split at hh
    · rename_i e hp
      cases d <;> simp [isPtrD] at hp
      exact plGet_ok H hh
    · rename_i e hp
      cases d <;> simp [isPtrD] at hp
      subst hp
      split at hh
      · rename_i n off hg
        simp only
        rw [Sem.run_bind, plGet_ok H hg]
        simp only [Result.andThen_ok, den]
        cases wr with
        | none =>
          simp only [Sem.run_bind, Sem.run_pure, Result.andThen_ok, asAddr]
          exact (evLoadAt_ok H hh).1
        | some nm =>
          have hs : (Builtin.ssaWrapNilChk_ #[xt] xt #[.pointer (some ⟨E.ρ n, off, none⟩), strVal "", strVal nm]).run P w = .ok (.pointer (some ⟨E.ρ n, off, none⟩)) w := rfl
          simp only [Sem.run_bind, hs, Sem.run_pure, Result.andThen_ok, asAddr]
          exact (evLoadAt_ok H hh).1
      · cases hh
    · rename_i n off hp
      injection hh with hh; subst hh
      cases d <;> simp [isPtrD] at hp <;> rfl
    · cases hh
    · rename_i hp
      have h1 := plGet_ok H hh
      cases d <;> simp [isPtrD] at hp <;> exact h1
  · cases hh
def methodA (P : Program) (h : Heap) : Nat → TypeId → AV → String → Option (FuncId × AV)
  | 0, _, _, _ => none
  | fuel + 1, t, v, name =>
    match P.info? t with
    | some i =>
      match i.methods.find? (·.name == name) with
      | some m =>
        match followA P h m.path.toList t (.val v) with
        | some (xt, x) =>
          match m.func with
          | none =>
            match plGet P h xt x with
            | some u => match view u with
              | .iface t' v' => methodA P h fuel t' v' name
              | _ => none
            | none => none
          | some (f, pr) => match recvA P h xt x pr with
            | some r => some (f, r)
            | none => none
        | none => none
      | none => none
    | none => none
theorem methodA_ok (H : HI B w0 E h nx w) : ∀ (fuel : Nat) (t : TypeId) (v : AV) (name : String) (f : FuncId) (r : AV), methodA P h fuel t v name = some (f, r) →
    (method fuel t (den E v) name).run P w = .ok (f, den E r) w
  | 0, _, _, _, _, _, hh => by simp [methodA] at hh
  | fuel + 1, t, v, name, f, r, hh => by
    simp only [methodA] at hh
    split at hh
    · rename_i i hi
      split at hh
      · rename_i m hm
        split at hh
        · rename_i xt x hf
          have h1 : (typeInfo t).run P w = .ok i w := by simp [typeInfo, hi]
          have h2 : (follow m.path.toList t (.val (den E v))).run P w = .ok (xt, denPl E x) w := followA_ok H _ _ _ _ _ hf
          unfold method
          rw [Sem.run_bind, h1]
          simp only [Result.andThen_ok, hm]
          rw [Sem.run_bind, h2]
          simp only [Result.andThen_ok]
          split at hh
          · rename_i hmf
            split at hh
            · rename_i u hg
              split at hh
              · rename_i t' v' hv
                simp only [hmf]
                rw [Sem.run_bind, plGet_ok H hg, ← den_view E u, hv]
                simp only [Result.andThen_ok, den]
                exact methodA_ok H fuel t' v' name f r hh
              · cases hh
            · cases hh
          · rename_i f' pr hmf
            split at hh
            · rename_i r' hr
              simp only [Option.some.injEq, Prod.mk.injEq] at hh
              obtain ⟨rfl, rfl⟩ := hh
              simp only [hmf]
              rw [Sem.run_bind, recvA_ok H _ hr]
              rfl
            · cases hh
        · cases hh
      · cases hh
    · cases hh

/-! ### calls -/
def callA (P : Program) (nx : Nat) (f : FuncId) (args : List AV) : Option OR :=
  match P.funcs[f]? with
  | some fn =>
    bif fn.name == "runtime.NumGoroutine" then none
    else match fn.body with
      | some _ => bif bdL nx args then some (.enter f args) else none
      | none => none
  | none => none
theorem callA_ok {f : FuncId} {args : List AV} {r : OR} (hh : callA P nx f args = some r) : ORok B w0 E nx w P (callFunc f (denL E args).toArray) r := by
  unfold callA at hh
  split at hh
  · rename_i fn hf
    cases hn : (fn.name == "runtime.NumGoroutine") with
    | true => simp [hn] at hh
    | false =>
      simp only [hn, cond_false] at hh
      split at hh
      · rename_i c hc
        cases hb : bdL nx args with
        | false => simp [hb] at hh
        | true =>
          simp only [hb, cond_true, Option.some.injEq] at hh
          subst hh
          have hn' : ¬ fn.name = "runtime.NumGoroutine" := fun e => by rw [e] at hn; simp at hn
          refine ⟨hb, ?_⟩
          simp [callFunc, hf, hn', hc]
      · cases hh
  · cases hh
def evCallV (P : Program) (nx : Nat) (f : AV) (args : List AV) : Option OR :=
  match view f with
  | .fn (.func g) first cap => callA P nx g (first ++ args ++ cap)
  | _ => none
def depthM (P : Program) : Nat := P.types.size + Made.depth
def evInvoke (P : Program) (h : Heap) (nx : Nat) (x : AV) (m : String) (args : List AV) : Option OR :=
  match view x with
  | .iface t v =>
    match methodA P h (depthM P) t v m with
    | some (f, r) => callA P nx f (r :: args)
    | none => none
  | _ => none
theorem evCallV_ok {f : AV} {args : List AV} {r : OR} (hh : evCallV P nx f args = some r) :
    ORok B w0 E nx w P (do let d ← Deferred.ofValue (den E f) (denL E args).toArray; invoke d.target d.args) r := by
  unfold evCallV at hh
  split at hh
  · rename_i g first cap hv
    rw [← den_view E f, hv]
    have h1 := callA_ok (B := B) (w0 := w0) (E := E) (w := w) hh
    have h2 : (do let d ← Deferred.ofValue (den E (.fn (.func g) first cap)) (denL E args).toArray; invoke d.target d.args : Sem Next) = callFunc g (denL E (first ++ args ++ cap)).toArray := by
      simp [den, Deferred.ofValue, invoke, denL_append]
    rw [h2]
    exact h1
  · cases hh
theorem ORok_congr {s s' : Sem Next} {r : OR} (hs : s.run P w = s'.run P w) (hh : ORok B w0 E nx w P s r) : ORok B w0 E nx w P s' r := by
  cases r <;> simp only [ORok] at hh ⊢ <;> rw [← hs] <;> exact hh
theorem evInvoke_ok (H : HI B w0 E h nx w) {x : AV} {m : String} {args : List AV} {r : OR} (hh : evInvoke P h nx x m args = some r) :
    ORok B w0 E nx w P (invoke (.fn (.method m) #[]) (#[den E x] ++ (denL E args).toArray)) r := by
  unfold evInvoke at hh
  split at hh
  · rename_i t v hv
    split at hh
    · rename_i f rc hm
      have h1 := callA_ok (B := B) (w0 := w0) (E := E) (w := w) hh
      refine ORok_congr ?_ h1
      rw [← den_view E x, hv]
      have h2 := methodA_ok H _ _ _ _ _ _ hm
      have h3 : (#[Value.iface t (den E v)] ++ (denL E args).toArray : Array Value)[0]? = some (.iface t (den E v)) := by simp
      have h4 : (#[Value.iface t (den E v)] ++ (denL E args).toArray : Array Value).extract 1 (#[Value.iface t (den E v)] ++ (denL E args).toArray : Array Value).size = (denL E args).toArray := by
        apply Array.ext'; simp
      simp only [invoke, den]
      rw [h3, h4]
      simp only [callMethod]
      rw [Sem.run_bind, run_program]
      simp only [Result.andThen_ok]
      rw [Sem.run_bind]
      unfold depthM at h2
      rw [h2]
      simp [denL]
    · cases hh
  · cases hh

/-! ### len, strings, iterators -/
def evLen (P : Program) (t : TypeId) (x : AV) : Option AV :=
  match P.underlying t, x with
  | some .string, .raw (.string s) => some (.raw (.int .i64 s.size))
  | some (.slice _), .raw (.slice _ n _) => some (.raw (.int .i64 n))
  | some (.slice _), .slc _ _ n _ => some (.raw (.int .i64 n))
  | some (.slice _), .gsl _ n => some (.raw (.int .i64 n))
  | _, _ => none
theorem evLen_ok {t ty : TypeId} {x v : AV} {l : List TypeId} (hh : evLen P t x = some v) (E : Env) (w : World) :
    (Builtin.len_ (t :: l).toArray ty #[den E x]).run P w = .ok (den E v) w := by
  unfold evLen at hh
  split at hh
  all_goals first
    | (rename_i hu; injection hh with hh; subst hh; simp [Builtin.len_, run_und hu, den, goInt]; done)
    | cases hh
def evIndex (P : Program) (t : TypeId) (x i : AV) : Option AV :=
  match P.underlying t, x, i with
  | some .string, .raw (.string s), .raw (.int _ k) =>
    bif decide (0 ≤ k) then
      match s[k.toNat]? with
      | some b => some (.raw (.int .u8 b.toNat))
      | none => none
    else none
  | _, _, _ => none
theorem evIndex_ok {t : TypeId} {x i v : AV} (hh : evIndex P t x i = some v) (E : Env) (w : World) : (Instr.index t (den E x) (den E i)).run P w = .ok (den E v) w := by
  unfold evIndex at hh
  split at hh
  · rename_i s kd k hu
    cases hk : decide (0 ≤ k) with
    | false => simp [hk] at hh
    | true =>
      simp only [hk, cond_true] at hh
      have hk' : 0 ≤ k := of_decide_eq_true hk
      split at hh
      · rename_i b hb
        injection hh with hh; subst hh
        simp [Instr.index, asIntOf, den, run_und hu, hk', hb]
      · cases hh
  · cases hh
def evRange (P : Program) (h : Heap) (nx : Nat) (t : TypeId) (x : AV) : Option OR :=
  match P.underlying t, x with
  | some .string, .raw (.string s) => some (.val (.ptr nx 0) ((nx, .iter s 0) :: h) (nx + 1))
  | _, _ => none
theorem evRange_ok (H : HI B w0 E h nx w) {t : TypeId} {x : AV} {r : OR} (hh : evRange P h nx t x = some r) : ORok B w0 E nx w P (nextOf (Instr.range t (den E x))) r := by
  unfold evRange at hh
  split at hh
  · rename_i s hu
    injection hh with hh; subst hh
    refine ⟨blt_succ nx, Nat.le_succ _, _, _, Env.set_ext E nx w.heap.size 0, H.allocIter, run_nextOf ?_⟩
    simp [Instr.range, run_und hu, den, Env.set_ρ]
  · cases hh
def evNext (h : Heap) (nx : Nat) (x : AV) (isString : Bool) : Option OR :=
  match x, isString with
  | .ptr n 0, true =>
    match look h n with
    | some (.iter s pos) =>
      bif Nat.blt pos s.size then
        some (.val (.tup [.raw (.bool true), .raw (.int .i64 pos), .raw (.int .i32 (Utf8.decode s pos).1)]) (putH h n (.iter s (pos + (Utf8.decode s pos).2))) nx)
      else some (.val (.tup [.raw (.bool false)]) h nx)
    | _ => none
  | _, _ => none
theorem evNext_ok (H : HI B w0 E h nx w) {x : AV} {b : Bool} {ty : TypeId} {r : OR} (hh : evNext h nx x b = some r) : ORok B w0 E nx w P (nextOf (Instr.next (den E x) b ty)) r := by
  unfold evNext at hh
  split at hh
  · rename_i n
    split at hh
    · rename_i s pos hl
      obtain ⟨a, hB, c, d⟩ := H.ent _ _ hl
      simp only [Ent] at d
      have h1 : (getObj (E.ρ n)).run P w = .ok (.stringIter s pos) w := by simp [getObj, Sem.run, d]
      cases hp : Nat.blt pos s.size with
      | true =>
        simp only [hp, cond_true, Option.some.injEq] at hh
        subst hh
        have hp' := blt_lt hp
        have h2 : ∀ o, (setObj (E.ρ n) o).run P w = .ok () { w with heap := w.heap.setIfInBounds (E.ρ n) o } := fun o => by simp [setObj, Sem.run, d]
        have hlt : E.ρ n < w.heap.size := (Array.getElem?_eq_some_iff.1 d).1
        refine ⟨by simp [bd, bdL], Nat.le_refl _, E, { w with heap := w.heap.setIfInBounds (E.ρ n) (.stringIter s (pos + (Utf8.decode s pos).2)) }, Ext.refl _ _, ?_, run_nextOf ?_⟩
        · refine H.turn hl ?_ (by simpa using H.size) (fun g hg => by simp [Array.getElem?_setIfInBounds, Ne.symm hg]) rfl ?_
          · refine H.below.trans ⟨rfl, rfl, rfl, by simp, fun k hk => ?_⟩
            have : E.ρ n ≠ k := by omega
            simp [Array.getElem?_setIfInBounds, this]
          · simp [Ent, Array.getElem?_setIfInBounds, hlt]
        · simp only [Instr.next, den]
          rw [Sem.run_bind, h1]
          simp only [Result.andThen_ok, hp', if_true]
          rw [Sem.run_bind, h2]
          simp [denL, den, goInt]
      | false =>
        simp only [hp, cond_false, Option.some.injEq] at hh
        subst hh
        have hp' : ¬ pos < s.size := by
          intro h'
          have : Nat.blt pos s.size = true := by simp [Nat.blt, Nat.ble_eq]; omega
          rw [hp] at this; cases this
        refine ORok.pure_ H (by simp [bd, bdL]) (run_nextOf ?_)
        simp only [Instr.next, den]
        rw [Sem.run_bind, h1]
        simp only [Result.andThen_ok, hp', if_false]
        simp [denL, den]
    · cases hh
  · cases hh
def evConvert (P : Program) (src dst : TypeId) (x : AV) : Option AV :=
  match P.underlying src, P.underlying dst, x with
  | some _, some (.int k), .raw (.int _ n) => some (.raw (.int k (k.wrap n)))
  | some _, some .string, .raw (.string s) => some (.raw (.string s))
  | _, _, _ => none
theorem evConvert_ok {src dst : TypeId} {x v : AV} (hh : evConvert P src dst x = some v) (E : Env) (w : World) : (convert src dst (den E x)).run P w = .ok (den E v) w := by
  unfold evConvert at hh
  split at hh
  · rename_i d k k' n hs hd
    injection hh with hh; subst hh
    unfold convert
    rw [Sem.run_bind, run_und hs]
    simp only [Result.andThen_ok]
    rw [Sem.run_bind, run_und hd]
    cases d <;> rfl
  · rename_i d s hs hd
    injection hh with hh; subst hh
    unfold convert
    rw [Sem.run_bind, run_und hs]
    simp only [Result.andThen_ok]
    rw [Sem.run_bind, run_und hd]
    cases d <;> rfl
  · cases hh
end EngOps4
end Go.Proofs.YtlpgfdhihimjaaaGreat.Eng
namespace Go.Proofs.YtlpgfdhihimjaaaGreat.Eng
section EngOps5
open Go Go.RowKit
variable {B : Nat} {w0 : World} {E : Env} {h : Heap} {nx : Nat} {w : World} {P : Program}

/-! ### append -/
def srcA (h : Heap) (size : Nat) : AV → Option (Nat × List AV)
  | .slc n off m _ => match cellsAt h n off (m * size) with
    | some l => some (m, l)
    | none => none
  | .gsl n m => match cellsAt h n 0 (m * size) with
    | some l => some (m, l)
    | none => none
  | _ => none
theorem srcA_ok (H : HI B w0 E h nx w) {size : Nat} {x : AV} {m : Nat} {news : List AV} (hh : srcA h size x = some (m, news)) :
    ∃ a c, den E x = .slice (some a) m c ∧ news.length = m * size ∧ bdL nx news = true ∧ ∀ j u, (denL E news)[j]? = some u → w.cell? (a.add j) = some u := by
  unfold srcA at hh
  split at hh
  · rename_i n off m' c
    split at hh
    · rename_i l hl
      simp only [Option.some.injEq, Prod.mk.injEq] at hh
      obtain ⟨rfl, rfl⟩ := hh
      obtain ⟨h1, h2, h3⟩ := H.cells hl
      exact ⟨_, _, rfl, h1, h2, h3⟩
    · cases hh
  · rename_i n m'
    split at hh
    · rename_i l hl
      simp only [Option.some.injEq, Prod.mk.injEq] at hh
      obtain ⟨rfl, rfl⟩ := hh
      obtain ⟨h1, h2, h3⟩ := H.cells hl
      exact ⟨_, _, rfl, h1, h2, h3⟩
    · cases hh
  · cases hh
def dstA (h : Heap) (e : TypeId) (size : Nat) : AV → Option (Nat × List AV × Option Nat)
  | .raw (.slice none 0 0) => some (0, [], none)
  | .gsl n len =>
    match look h n with
    | some (.blk ty cs (some sz)) => bif Nat.beq ty e && Nat.beq sz size && Nat.beq cs.length (len * size) then some (len, cs, some n) else none
    | _ => none
  | .slc n 0 len cap =>
    match look h n with
    | some (.blk ty cs none) => bif Nat.beq ty e && Nat.beq cs.length (cap * size) && Nat.ble len cap && Nat.ble cap 9223372036854775807 then some (len, cs.take (len * size), some n) else none
    | _ => none
  | _ => none
theorem dstA_ok (H : HI B w0 E h nx w) {e : TypeId} {size : Nat} (h0 : 0 < size) {s : AV} {len : Nat} {xs : List AV} {on : Option Nat} (hh : dstA h e size s = some (len, xs, on)) :
    w.ownsRow B e size (den E s) len (denL E xs) ∧ bdL nx xs = true ∧ (den E s).ownBlock = on.map E.ρ ∧ (on = none → den E s = .slice none 0 0 ∧ len = 0) ∧ (∀ n, on = some n → ∃ o, look h n = some o) ∧ (den E s = .slice none 0 0 → on = none) := by
  unfold dstA at hh
  split at hh
  · simp only [Option.some.injEq, Prod.mk.injEq] at hh
    obtain ⟨rfl, rfl, rfl⟩ := hh
    exact ⟨World.ownsRow_nil w B e size, rfl, rfl, fun _ => ⟨rfl, rfl⟩, (fun n hn => by cases hn), fun _ => rfl⟩
  · rename_i n len'
    split at hh
    · rename_i ty cs sz hl
      cases hc : (Nat.beq ty e && Nat.beq sz size && Nat.beq cs.length (len' * size)) with
      | false => simp [hc] at hh
      | true =>
        simp only [hc, cond_true, Option.some.injEq, Prod.mk.injEq] at hh
        obtain ⟨rfl, rfl, rfl⟩ := hh
        simp only [Bool.and_eq_true] at hc
        obtain ⟨⟨h1, h2⟩, h3⟩ := hc
        have h1 := Nat.eq_of_beq_eq_true h1
        have h2 := Nat.eq_of_beq_eq_true h2
        have h3 := Nat.eq_of_beq_eq_true h3
        subst h1; subst h2
        obtain ⟨a, b, c, sp, d1, d2, d3⟩ := H.ent _ _ hl
        have hle : len' ≤ E.κ n := by
          rcases Nat.lt_or_ge (E.κ n) len' with h' | h'
          · have : (E.κ n + 1) * sz ≤ len' * sz := Nat.mul_le_mul_right _ h'
            rw [Nat.succ_mul] at this
            omega
          · exact h'
        refine ⟨⟨by rw [denL_length, h3], .inr ⟨E.ρ n, E.κ n, _, rfl, b, d1, hle, d3, by simp [denL_length]; omega, ?_⟩⟩, c, rfl, (fun hn => by cases hn), (fun m hm => by cases hm; exact ⟨_, hl⟩), (fun hn => by simp [den] at hn)⟩
        have h5 : len' * sz = (denL E cs).length := by rw [denL_length, h3]
        rw [h5]
        exact List.take_left
    · cases hh
  · rename_i n len' cap
    split at hh
    · rename_i ty cs hl
      cases hc : (Nat.beq ty e && Nat.beq cs.length (cap * size) && Nat.ble len' cap && Nat.ble cap 9223372036854775807) with
      | false => simp [hc] at hh
      | true =>
        simp only [hc, cond_true, Option.some.injEq, Prod.mk.injEq] at hh
        obtain ⟨rfl, rfl, rfl⟩ := hh
        simp only [Bool.and_eq_true, Nat.ble_eq] at hc
        obtain ⟨⟨⟨h1, h3⟩, h4⟩, h5⟩ := hc
        have h1 := Nat.eq_of_beq_eq_true h1
        have h3 := Nat.eq_of_beq_eq_true h3
        subst h1
        obtain ⟨a, b, c, d⟩ := H.ent _ _ hl
        simp only [Ent] at d
        have hmul : len' * size ≤ cap * size := Nat.mul_le_mul_right _ h4
        refine ⟨⟨by rw [denL_length, List.length_take]; omega, .inr ⟨E.ρ n, cap, _, rfl, b, d, h4, by simp only [maxLen]; omega, by simp [denL_length, h3], by simp [denL_take]⟩⟩, bdL_take c _, rfl, (fun hn => by cases hn), (fun m hm => by cases hm; exact ⟨_, hl⟩), (fun hn => by simp [den] at hn)⟩
    · cases hh
  · cases hh
def dropO (h : Heap) : Option Nat → Heap
  | some n => dropH h n
  | none => h
def evAppend (P : Program) (h : Heap) (nx : Nat) (t : TypeId) (s x : AV) : Option OR :=
  match P.underlying t with
  | some (.slice e) =>
    match P.info? e with
    | some i =>
      match i.zero with
      | some z =>
        match dstA h e i.size s, srcA h i.size x with
        | some (len, xs, on), some (m, news) =>
          bif Nat.beq (rawCells z).length i.size && Nat.blt 0 i.size && Nat.ble ((len + m) * i.bytes) 140737488355328 && Nat.ble (len + m) 9223372036854775807 && news.all one then
            match on, m with
            | none, 0 => some (.val (.raw (.slice none 0 0)) h nx)
            | _, _ => some (.val (.gsl nx (len + m)) ((nx, .blk e (xs ++ news) (some i.size)) :: dropO h on) (nx + 1))
          else none
        | _, _ => none
      | none => none
    | none => none
  | _ => none
theorem evAppend_ok (H : HI B w0 E h nx w) {t ty : TypeId} {s x : AV} {r : OR} (hh : evAppend P h nx t s x = some r) :
    ORok B w0 E nx w P (nextOf (Builtin.append_ #[t, t] ty #[den E s, den E x])) r := by
  unfold evAppend at hh
  split at hh
  · rename_i e hu
    split at hh
    · rename_i i hi
      split at hh
      · rename_i z hz
        split at hh
        · rename_i len xs on m news hd hs
          cases hc : (Nat.beq (rawCells z).length i.size && Nat.blt 0 i.size && Nat.ble ((len + m) * i.bytes) 140737488355328 && Nat.ble (len + m) 9223372036854775807 && news.all one) with
          | false => simp [hc] at hh
          | true =>
            simp only [hc, cond_true] at hh
            simp only [Bool.and_eq_true, Nat.ble_eq] at hc
            obtain ⟨⟨⟨⟨c1, c2⟩, c3⟩, c4⟩, c5⟩ := hc
            have c1 := Nat.eq_of_beq_eq_true c1
            have c2 := blt_lt c2
            obtain ⟨a, c, hx, hnl, hnb, hnc⟩ := srcA_ok H hs
            obtain ⟨hown, hxb, hob, hnone, hsome, hnil⟩ := dstA_ok H c2 hd
            have hone : ∀ u ∈ denL E news, u.oneCell' = true := by
              intro v hv
              rw [denL_eq_map] at hv
              obtain ⟨y, hy, rfl⟩ := List.mem_map.1 hv
              exact one_den E (List.all_eq_true.1 c5 y hy)
            obtain ⟨v', w', hrun, hown', hgrow, hiff, hat⟩ := run_append_own_at (P := P) w B t ty e i z i.size i.bytes hu hi hz rfl rfl (by rw [rawCells_den E z]; simp [denL_length, c1]) c2
              (den E s) len (denL E xs) hown a m c (denL E news) (by rw [denL_length, hnl]) hnc hone (by simp only [maxLen]; omega) c3 H.size
            rw [hx]
            split at hh
            · injection hh with hh; subst hh
              obtain ⟨e1, e2⟩ := hnone rfl
              have hv' := hiff.2 ⟨e1, rfl⟩
              subst hv'
              have hw' : HI B w0 E h nx w' := by
                refine ⟨H.below.grown hgrow H.size (fun k hk => by rw [e1] at hk; simp [Value.ownBlock] at hk), Nat.le_trans H.size hgrow.size, ?_, H.inj⟩
                intro n o hl
                obtain ⟨a1, a2, a3, a4⟩ := H.ent n o hl
                exact ⟨a1, a2, a3, a4.keep (Ext.refl nx E) a1 a3 (hgrow.block _ a4.lt (by rw [e1]; simp [Value.ownBlock]))⟩
              exact ⟨rfl, Nat.le_refl _, E, w', Ext.refl _ _, hw', run_nextOf hrun⟩
            · rename_i hnot
              injection hh with hh; subst hh
              rcases hown'.2 with ⟨hv', h0⟩ | ⟨g, cap, cur, hv', hbg, hg, hnc', hcm, hcs, htake⟩
              · obtain ⟨e1, e2⟩ := hiff.1 hv'
                exact absurd e2 (hnot (hnil e1))
              · subst hv'
                have hbel : Below B w0 w' := H.below.grown hgrow H.size (fun k hk => by
                  rw [hob] at hk
                  cases on with
                  | none => simp at hk
                  | some n =>
                    simp at hk; subst hk
                    obtain ⟨o, ho⟩ := hsome n rfl
                    exact (H.ent n o ho).2.1)
                have H' : HI B w0 E (dropO h on) nx w := by
                  cases on with
                  | none => exact H
                  | some n => exact H.forget n
                have hlk : ∀ k o, look (dropO h on) k = some o → look h k = some o ∧ some (E.ρ k) ≠ (den E s).ownBlock := by
                  intro k o hl
                  cases on with
                  | none =>
                    refine ⟨hl, ?_⟩
                    rw [hob]; simp
                  | some n =>
                    simp only [dropO, look_drop] at hl
                    by_cases hk : k = n
                    · simp [hk] at hl
                    · simp only [hk, if_false] at hl
                      refine ⟨hl, ?_⟩
                      rw [hob]
                      simp only [Option.map_some, ne_eq, Option.some.injEq]
                      intro he
                      obtain ⟨o', ho'⟩ := hsome n rfl
                      exact hk (H.inj k n _ _ hl ho' he)
                have hadd := H'.add (w' := w') (g := g) (k := cap) (o := .blk e (xs ++ news) (some i.size)) hbel (Nat.le_trans H.size hgrow.size)
                  (fun k o hl => hgrow.block _ (H.ent k o (hlk k o hl).1).2.2.2.lt (hlk k o hl).2) hbg
                  (fun k o hl he => by
                    rcases hat with hat | hat
                    · exact (hlk k o hl).2 (by rw [← hat, he]; rfl)
                    · have h1 := (H.ent k o (hlk k o hl).1).2.2.2.lt
                      simp [Value.ownBlock] at hat
                      omega)
                  (bdL_append hxb hnb) (by
                    refine ⟨cur.toList.drop ((len + m) * i.size), ?_, ?_, ?_⟩
                    · rw [Env.set_ρ, hg]
                      congr 2
                      have hx1 := denL_ext (Env.set_ext E nx g cap) (xs ++ news) (bdL_append hxb hnb)
                      rw [hx1, denL_append, ← htake, List.take_append_drop]
                    · rw [Env.set_κ]
                      have h1 : (xs ++ news).length = (len + m) * i.size := by
                        have := hown'.1
                        rw [← denL_append, denL_length] at this
                        exact this
                      have h2 : (len + m) * i.size ≤ cap * i.size := Nat.mul_le_mul_right _ hnc'
                      rw [h1, List.length_drop, Array.length_toList, hcs]
                      omega
                    · rw [Env.set_κ]; exact hcm)
                refine ⟨by simp only [bd]; exact blt_succ nx, Nat.le_succ _, _, w', Env.set_ext E nx g cap, hadd, run_nextOf ?_⟩
                rw [hrun]
                simp [den, Env.set_ρ, Env.set_κ]
        · cases hh
      · cases hh
    · cases hh
  · cases hh
end EngOps5
end Go.Proofs.YtlpgfdhihimjaaaGreat.Eng
namespace Go.Proofs.YtlpgfdhihimjaaaGreat.Eng
section EngOps6
open Go Go.RowKit
variable {B : Nat} {w0 : World} {E : Env} {h : Heap} {nx : Nat} {w : World} {P : Program}

def mkVal (h : Heap) (nx : Nat) (v : AV) : Option OR := bif bd nx v then some (.val v h nx) else none
def mkOpt (h : Heap) (nx : Nat) : Option AV → Option OR
  | some v => mkVal h nx v
  | none => none
theorem mkVal_ok (H : HI B w0 E h nx w) {v : AV} {r : OR} {s : Sem Next} (hh : mkVal h nx v = some r) (hs : s.run P w = .ok (.value (den E v)) w) : ORok B w0 E nx w P s r := by
  unfold mkVal at hh
  cases hb : bd nx v with
  | false => simp [hb] at hh
  | true =>
    simp only [hb, cond_true, Option.some.injEq] at hh
    subst hh
    exact ORok.pure_ H hb hs
theorem mkOpt_ok (H : HI B w0 E h nx w) {o : Option AV} {r : OR} {s : Sem Next} (hh : mkOpt h nx o = some r) (hs : ∀ v, o = some v → s.run P w = .ok (.value (den E v)) w) : ORok B w0 E nx w P s r := by
  cases o with
  | none => simp [mkOpt] at hh
  | some v => exact mkVal_ok H hh (hs v rfl)

def evNilCheck (x : AV) : Option AV :=
  match view x with
  | .ptr n off => some x
  | .iface _ _ => some x
  | .fn (.func _) _ _ => some x
  | _ => none
def evMakeIface (P : Program) (t : TypeId) (x : AV) : Option AV :=
  match P.underlying t with
  | some d => bif isIfaceD d then none else some (.iface t x)
  | none => none
def evCall (P : Program) (h : Heap) (nx : Nat) (ev : Operand → AV) (c : Call) : Option OR :=
  match c.callee with
  | .value f => evCallV P nx (ev f) (c.args.toList.map ev)
  | .invoke r m => evInvoke P h nx (ev r) m (c.args.toList.map ev)
  | .builtin b =>
    match b, c.args.toList, c.argTypes.toList with
    | .len, [x], t :: l => mkOpt h nx (evLen P t (ev x))
    | .append, [s, x], [t, t'] => bif Nat.beq t t' then evAppend P h nx t (ev s) (ev x) else none
    | _, _, _ => none
def evDefer (nx : Nat) (ev : Operand → AV) (c : Call) : Option OR :=
  match c.callee with
  | .value f =>
    match view (ev f) with
    | .fn g first cap =>
      let d : ADef := ⟨g, cap, first ++ c.args.toList.map ev⟩
      bif bdD nx d then some (.dfr d) else none
    | _ => none
  | _ => none
def evOp (P : Program) (h : Heap) (nx : Nat) (ev : Operand → AV) (o : Oper) : Option OR :=
  match o.op with
  | .move x => mkVal h nx (ev x)
  | .assign x => mkVal h nx (ev x)
  | .pick c a b =>
    match ev c with
    | .raw (.bool t) => mkVal h nx (bif t then ev a else ev b)
    | _ => none
  | .alloc t =>
    match zeroOf P t with
    | some z => newBlk h nx t (rawCells z)
    | none => none
  | .box t x => newBlk h nx t (cellsOf (ev x))
  | .build t parts => mkOpt h nx (evBuild P t (parts.toList.map fun p => (p.1, ev p.2)))
  | .buildSlice t len parts => evBuildSlice P h nx t len (parts.toList.map fun p => (p.1, ev p.2))
  | .load t a =>
    match ev a with
    | .ptr n off => mkOpt h nx (evLoadAt P h t n off)
    | _ => none
  | .store t a x =>
    bif bd nx (ev x) then
      match evStore P h t (ev a) (ev x) with
      | some h' => some (.skip h')
      | none => none
    else none
  | .nilCheck x => mkOpt h nx (evNilCheck (ev x))
  | .binOp op t x y _ => mkOpt h nx (evBin P op t x y (ev x) (ev y))
  | .unOp .not _ x =>
    match ev x with
    | .raw (.bool b) => some (.val (.raw (.bool (!b))) h nx)
    | _ => none
  | .convert src dst x => mkOpt h nx (evConvert P src dst (ev x))
  | .makeInterface t x => mkOpt h nx (evMakeIface P t (ev x))
  | .makeFunc fn first cap => mkVal h nx (.fn fn (first.toList.map ev) (cap.toList.map ev))
  | .fieldAddr s x f => mkOpt h nx (evFieldAddr P s (ev x) f)
  | .field t x f => mkOpt h nx (evField P t (ev x) f)
  | .indexAddr t x i => mkOpt h nx (evIndexAddr P t (ev x) (ev i))
  | .index t x i => mkOpt h nx (evIndex P t (ev x) (ev i))
  | .range t x => evRange P h nx t (ev x)
  | .next it s => evNext h nx (ev it) s
  | .typeAssert x t a ok => bif bd nx (ev x) then evAssert P h nx (ev x) t a ok else none
  | .extract x i => mkOpt h nx (evExtract (ev x) i)
  | .call c => evCall P h nx ev c
  | .defer c => evDefer nx ev c
  | _ => none

theorem map_ev {ev : Operand → AV} {evc : Operand → Value} (hev : ∀ x, evc x = den E (ev x)) (l : Array Operand) : l.map evc = (denL E (l.toList.map ev)).toArray := by
  apply Array.ext'
  simp only [Array.toList_map, denL_eq_map, List.map_map]
  exact List.map_congr_left fun x _ => hev x
theorem map_parts {ev : Operand → AV} {evc : Operand → Value} (hev : ∀ x, evc x = den E (ev x)) (l : Array (Nat × Operand)) :
    (l.map fun (i, x) => (i, evc x)) = ((l.toList.map fun p => (p.1, ev p.2)).map fun p => (p.1, den E p.2)).toArray := by
  apply Array.ext'
  simp only [Array.toList_map, List.map_map]
  exact List.map_congr_left fun x _ => by simp [hev]

theorem evCall_ok (H : HI B w0 E h nx w) {ev : Operand → AV} {evc : Operand → Value} (hev : ∀ x, evc x = den E (ev x)) {c : Call} {ty : TypeId} {r : OR}
    (hh : evCall P h nx ev c = some r) : ORok B w0 E nx w P (do let d ← resolve evc c ty; invoke d.target d.args) r := by
  obtain ⟨callee, args, argTypes⟩ := c
  unfold evCall at hh
  split at hh
  · rename_i f hc
    simp only at hc hh
    subst hc
    have h1 := evCallV_ok (B := B) (w0 := w0) (E := E) (w := w) hh
    have h2 : resolve evc { callee := .value f, args := args, argTypes := argTypes } ty = Deferred.ofValue (den E (ev f)) (denL E (args.toList.map ev)).toArray := by
      simp only [resolve, map_ev hev, hev]
    rw [h2]
    exact h1
  · rename_i x m hc
    simp only at hc hh
    subst hc
    have h1 := evInvoke_ok H hh
    have h2 : (do let d ← resolve evc { callee := .invoke x m, args := args, argTypes := argTypes } ty; invoke d.target d.args : Sem Next) = invoke (.fn (.method m) #[]) (#[den E (ev x)] ++ (denL E (args.toList.map ev)).toArray) := by
      simp only [resolve, map_ev hev, hev, pure_bind]
    rw [h2]
    exact h1
  · rename_i b hc
    simp only at hc hh
    subst hc
    have h2 : ∃ cs, (do let d ← resolve evc { callee := .builtin b, args := args, argTypes := argTypes } ty; invoke d.target d.args : Sem Next) =
        builtin b argTypes ty cs (denL E (args.toList.map ev)).toArray := ⟨_, by simp only [resolve, map_ev hev, pure_bind, invoke]; rfl⟩
    obtain ⟨cs, h2⟩ := h2
    rw [h2]
    split at hh
    · rename_i x t l ha ht
      refine mkOpt_ok H hh fun v hv => ?_
      have ha' : args = [x].toArray := by rw [← ha]
      have ht' : argTypes = (t :: l).toArray := by rw [← ht]
      subst ha' ht'
      have h3 := evLen_ok (ty := ty) (l := l) hv E w
      simp only [builtin]
      simp only [List.map_cons, List.map_nil, denL]
      exact run_nextOf h3
    · rename_i s x t t' ha ht
      cases hb : Nat.beq t t' with
      | false => simp [hb] at hh
      | true =>
        simp only [hb, cond_true] at hh
        have hb' := Nat.eq_of_beq_eq_true hb
        subst hb'
        have ha' : args = [s, x].toArray := by rw [← ha]
        have ht' : argTypes = [t, t].toArray := by rw [← ht]
        subst ha' ht'
        have h3 := evAppend_ok (ty := ty) H hh
        simp only [builtin]
        simp only [List.map_cons, List.map_nil, denL]
        exact h3
    · cases hh

theorem evOp_ok (H : HI B w0 E h nx w) {ev : Operand → AV} {evc : Operand → Value} (hev : ∀ x, evc x = den E (ev x)) {o : Oper} {r : OR}
    (hh : evOp P h nx ev o = some r) : ORok B w0 E nx w P (execOp evc o) r := by
  obtain ⟨dst, op, ty, pos, after, guard⟩ := o
  unfold evOp at hh
  simp only at hh
  cases op <;> (try simp only at hh) <;> (try (cases hh; done)) <;> (try simp only [execOp])
  case move x => exact mkVal_ok H hh (by rw [hev]; rfl)
  case assign x => exact mkVal_ok H hh (by rw [hev]; rfl)
  case pick c a b =>
    split at hh
    · rename_i t ht
      refine mkVal_ok H hh ?_
      rw [hev c, ht, hev a, hev b]
      cases t <;> simp [den, asBool]
    · cases hh
  case alloc t =>
    split at hh
    · rename_i z hz
      refine newBlk_ok H hh (run_nextOf ?_)
      rw [← rawCells_den E z]
      simp [Instr.alloc, run_zeroOf hz, newVar, newRow]
    · cases hh
  case box t x =>
    refine newBlk_ok H hh (run_nextOf ?_)
    rw [← cells_den E (ev x), hev x]
    simp [Instr.box, newVar, newRow]
  case build t parts =>
    refine mkOpt_ok H hh fun v hv => run_nextOf ?_
    rw [map_parts hev]
    exact evBuild_ok hv E w
  case buildSlice t len parts =>
    refine evBuildSlice_ok H hh ?_
    rw [map_parts hev]
  case load t a =>
    split at hh
    · rename_i n off ha
      refine mkOpt_ok H hh fun v hv => run_nextOf ?_
      rw [hev a, ha]
      simp only [Instr.loadAt, den, Instr.sureAddr, pure_bind]
      exact (evLoadAt_ok H hv).1
    · cases hh
  case store t a x =>
    cases hb : bd nx (ev x) with
    | false => simp [hb] at hh
    | true =>
      simp only [hb, cond_true] at hh
      split at hh
      · rename_i h' hs
        injection hh with hh; subst hh
        obtain ⟨w', h1, h2⟩ := evStore_ok H hb hs
        refine ⟨w', h1, ?_⟩
        rw [hev a, hev x, Sem.run_bind, h2]
        rfl
      · cases hh
  case nilCheck x =>
    refine mkOpt_ok H hh fun v hv => ?_
    unfold evNilCheck at hv
    rw [hev x]
    split at hv
    · rename_i n off hx
      injection hv with hv; subst hv
      rw [← den_view E (ev x), hx]; rfl
    · rename_i t u hx
      injection hv with hv; subst hv
      rw [← den_view E (ev x), hx]; rfl
    · rename_i g a b hx
      injection hv with hv; subst hv
      rw [← den_view E (ev x), hx]; rfl
    · cases hv
  case binOp op t x y yt =>
    refine mkOpt_ok H hh fun v hv => run_nextOf ?_
    rw [hev x, hev y]
    exact evBin_ok hv E w
  case unOp op t x =>
    cases op <;> simp only at hh
    case not =>
      split at hh
      · rename_i b hb
        injection hh with hh; subst hh
        refine ORok.pure_ H rfl (run_nextOf ?_)
        rw [hev x, hb]
        rfl
      · cases hh
    all_goals cases hh
  case convert src dst x =>
    refine mkOpt_ok H hh fun v hv => run_nextOf ?_
    rw [hev x]
    exact evConvert_ok hv E w
  case makeInterface t x =>
    refine mkOpt_ok H hh fun v hv => run_nextOf ?_
    unfold evMakeIface at hv
    rw [hev x]
    split at hv
    · rename_i d hu
      cases hi : isIfaceD d with
      | true => simp [hi] at hv
      | false =>
        simp only [hi, cond_false, Option.some.injEq] at hv
        subst hv
        unfold Instr.makeInterface
        rw [Sem.run_bind, run_und hu]
        cases d <;> first | rfl | (simp [isIfaceD] at hi)
    · cases hv
  case makeFunc fn first cap =>
    refine mkVal_ok H hh (run_nextOf ?_)
    rw [map_ev hev, map_ev hev]
    rfl
  case fieldAddr s x f =>
    refine mkOpt_ok H hh fun v hv => run_nextOf ?_
    rw [hev x]
    exact evFieldAddr_ok hv E w
  case field t x f =>
    refine mkOpt_ok H hh fun v hv => run_nextOf ?_
    rw [hev x]
    exact evField_ok hv E w
  case indexAddr t x i =>
    refine mkOpt_ok H hh fun v hv => run_nextOf ?_
    rw [hev x, hev i]
    exact evIndexAddr_ok hv E w
  case index t x i =>
    refine mkOpt_ok H hh fun v hv => run_nextOf ?_
    rw [hev x, hev i]
    exact evIndex_ok hv E w
  case range t x =>
    rw [hev x]
    exact evRange_ok H hh
  case next it s =>
    rw [hev it]
    exact evNext_ok H hh
  case typeAssert x t a ok =>
    cases hb : bd nx (ev x) with
    | false => simp [hb] at hh
    | true =>
      simp only [hb, cond_true] at hh
      rw [hev x]
      exact evAssert_ok H hb hh
  case extract x i =>
    refine mkOpt_ok H hh fun v hv => run_nextOf ?_
    rw [hev x]
    exact evExtract_ok hv E w
  case call c => exact evCall_ok H hev hh
  case defer c =>
    obtain ⟨callee, args, argTypes⟩ := c
    unfold evDefer at hh
    split at hh
    · rename_i f hc
      simp only at hc hh
      subst hc
      split at hh
      · rename_i g first cap hv
        cases hb : bdD nx ⟨g, cap, first ++ args.toList.map ev⟩ with
        | false => simp [hb] at hh
        | true =>
          simp only [hb, cond_true, Option.some.injEq] at hh
          subst hh
          refine ⟨hb, ?_⟩
          simp only [resolve, map_ev hev, hev f]
          rw [← den_view E (ev f), hv]
          simp [den, Deferred.ofValue, denD, denL_append]
      · cases hh
    · cases hh
end EngOps6
end Go.Proofs.YtlpgfdhihimjaaaGreat.Eng
namespace Go.Proofs.YtlpgfdhihimjaaaGreat.Eng
section EngRun
open Go Go.RowKit
variable {B : Nat} {w0 : World} {E : Env} {w : World} {P : Program}

structure St where
  tmps : List AV
  defers : List ADef
  heap : Heap
  next : Nat
def St.ev (st : St) : Operand → AV
  | .tmp t => match st.tmps[t]? with
    | some v => v
    | none => .raw undef
  | .const v => .raw v
  | .global g => .raw (.pointer (some ⟨g, 0, none⟩))
  | .func f => .raw (.func (.func f) #[] #[])
def setL : List AV → Nat → AV → List AV
  | [], _, _ => []
  | _ :: r, 0, v => v :: r
  | x :: r, n + 1, v => x :: setL r n v
def St.put (st : St) (dst : Option Tmp) (v : AV) : St :=
  match dst with
  | some d => { st with tmps := setL st.tmps d v }
  | none => st
def St.to (st : St) (h : Heap) (nx : Nat) : St := { st with heap := h, next := nx }

structure RS (B : Nat) (w0 : World) (E : Env) (st : St) (a : Act) (w : World) : Prop where
  tmps : a.tmps = (denL E st.tmps).toArray
  defs : a.defers = st.defers.map (denD E)
  bt : bdL st.next st.tmps = true
  bds : st.defers.all (bdD st.next) = true
  hi : HI B w0 E st.heap st.next w

theorem denD_ext {N : Nat} {E E' : Env} (hx : Ext N E E') {d : ADef} (hb : bdD N d = true) : denD E' d = denD E d := by
  simp only [bdD, Bool.and_eq_true] at hb
  simp only [denD, denL_ext hx _ hb.1, denL_ext hx _ hb.2]
theorem bdD_mono {N M : Nat} (hn : N ≤ M) {d : ADef} (hb : bdD N d = true) : bdD M d = true := by
  simp only [bdD, Bool.and_eq_true] at *
  exact ⟨bdL_mono hn _ hb.1, bdL_mono hn _ hb.2⟩
theorem denDs_ext {N : Nat} {E E' : Env} (hx : Ext N E E') {l : List ADef} (hb : l.all (bdD N) = true) : l.map (denD E') = l.map (denD E) :=
  List.map_congr_left fun d hd => denD_ext hx (List.all_eq_true.1 hb d hd)
theorem bdDs_mono {N M : Nat} (hn : N ≤ M) {l : List ADef} (hb : l.all (bdD N) = true) : l.all (bdD M) = true :=
  List.all_eq_true.2 fun d hd => bdD_mono hn (List.all_eq_true.1 hb d hd)

theorem RS.ev {st : St} {a : Act} (R : RS B w0 E st a w) (x : Operand) : a.eval x = den E (st.ev x) := by
  cases x with
  | tmp t =>
    simp only [Act.eval, St.ev, R.tmps]
    have h1 := denL_getElem? E st.tmps t
    cases ht : st.tmps[t]? with
    | none => simp [ht] at h1; simp [Array.getD_eq_getD_getElem?, List.getElem?_toArray, h1, den, denL_getElem?, ht]
    | some v => simp [Array.getD_eq_getD_getElem?, List.getElem?_toArray, h1, ht]
  | const v => rfl
  | global g => rfl
  | func f => rfl

theorem setL_den (E : Env) : ∀ (l : List AV) (d : Nat) (v : AV), (denL E l).toArray.setIfInBounds d (den E v) = (denL E (setL l d v)).toArray := by
  have key : ∀ (l : List AV) (d : Nat) (v : AV), (denL E l).set d (den E v) = denL E (setL l d v) := by
    intro l
    induction l with
    | nil => intro d v; rfl
    | cons x r ih =>
      intro d v
      cases d with
      | zero => rfl
      | succ d => simp [denL, setL, ih]
  intro l d v
  rw [List.setIfInBounds_toArray, key]
theorem setL_bd {N : Nat} : ∀ {l : List AV} {d : Nat} {v : AV}, bdL N l = true → bd N v = true → bdL N (setL l d v) = true
  | [], _, _, _, _ => rfl
  | x :: r, 0, v, hl, hv => by
    simp only [bdL, Bool.and_eq_true] at hl
    simp [setL, bdL, hl.2, hv]
  | x :: r, d + 1, v, hl, hv => by
    simp only [bdL, Bool.and_eq_true] at hl
    simp [setL, bdL, hl.1, setL_bd hl.2 hv]

/-- A value comes back. -/
theorem RS.step {st : St} {a : Act} (R : RS B w0 E st a w) {E' : Env} {h' : Heap} {nx' : Nat} {w' : World} {v : AV} (hx : Ext st.next E E') (hn : st.next ≤ nx')
    (hb : bd nx' v = true) (H : HI B w0 E' h' nx' w') (dst : Option Tmp) : RS B w0 E' ((st.to h' nx').put dst v) (a.put dst (den E' v)) w' := by
  cases dst with
  | none =>
    exact ⟨by rw [show (a.put none (den E' v)).tmps = a.tmps from rfl, R.tmps]; simp only [St.put, St.to]; rw [denL_ext hx _ R.bt],
      by rw [show (a.put none (den E' v)).defers = a.defers from rfl, R.defs]; simp only [St.put, St.to]; rw [denDs_ext hx R.bds],
      bdL_mono hn _ R.bt, bdDs_mono hn R.bds, H⟩
  | some d =>
    exact ⟨by
        simp only [Act.put, R.tmps, St.put, St.to]
        rw [← setL_den, denL_ext hx _ R.bt],
      by simp only [Act.put, R.defs, St.put, St.to]; rw [denDs_ext hx R.bds],
      setL_bd (bdL_mono hn _ R.bt) hb, bdDs_mono hn R.bds, H⟩
theorem den_undef (E : Env) : den E (.raw undef) = undef := rfl

/-! ### how it ends -/
inductive Ex where
  | normal
  | exit (id : Nat)
  | ret
  | panic (chain : List (AV × Bool))
def denCh (E : Env) (ch : List (AV × Bool)) : List PanicEntry := ch.map fun p => { v := den E p.1, recovered := p.2 }
def bdCh (N : Nat) (ch : List (AV × Bool)) : Bool := ch.all fun p => bd N p.1
def denEx (E : Env) : Ex → Exit
  | .normal => .normal
  | .exit id => .exit id
  | .ret => .ret
  | .panic ch => .panic (denCh E ch)
def bdEx (N : Nat) : Ex → Bool
  | .panic ch => bdCh N ch
  | _ => true
theorem denCh_ext {N : Nat} {E E' : Env} (hx : Ext N E E') {ch : List (AV × Bool)} (hb : bdCh N ch = true) : denCh E' ch = denCh E ch :=
  List.map_congr_left fun p hp => by rw [den_ext hx p.1 (List.all_eq_true.1 hb p hp)]
theorem bdCh_mono {N M : Nat} (hn : N ≤ M) {ch : List (AV × Bool)} (hb : bdCh N ch = true) : bdCh M ch = true :=
  List.all_eq_true.2 fun p hp => bd_mono hn p.1 (List.all_eq_true.1 hb p hp)

def Post (B : Nat) (w0 : World) (E : Env) (nx : Nat) (e : Ex) (st' : St) : Exit → Act → World → Prop := fun e' a' w' =>
  ∃ E', Ext nx E E' ∧ nx ≤ st'.next ∧ e' = denEx E' e ∧ bdEx st'.next e = true ∧ RS B w0 E' st' a' w'

inductive FR where
  | ret (v : AV) (h : Heap) (nx : Nat)
  | pan (ch : List (AV × Bool)) (h : Heap) (nx : Nat)
def FRok (B : Nat) (w0 : World) (E : Env) (nx : Nat) : FR → Ending → World → Prop
  | .ret v h' nx', .returned u, w' => ∃ E', Ext nx E E' ∧ nx ≤ nx' ∧ bd nx' v = true ∧ u = den E' v ∧ HI B w0 E' h' nx' w'
  | .pan ch h' nx', .panicked c, w' => ∃ E', Ext nx E E' ∧ nx ≤ nx' ∧ bdCh nx' ch = true ∧ c = denCh E' ch ∧ HI B w0 E' h' nx' w'
  | _, _, _ => False
abbrev CF := FuncId → List AV → Heap → Nat → Option FR
def CFok (P : Program) (cf : CF) : Prop := ∀ f args h nx r, cf f args h nx = some r → ∀ B w0 E w, HI B w0 E h nx w → bdL nx args = true →
  Calls P f (denL E args).toArray w (FRok B w0 E nx r)

/-! ### one operation -/
def wantedA (ops : Array Oper) (st : St) (o : Oper) : Option Bool :=
  match o.guard with
  | none => some true
  | some (j, want) =>
    match (ops[j]?).bind (·.dst) with
    | some t => match st.tmps[t]? with
      | some (.raw (.bool b)) => some (b == want)
      | some (.raw (.tuple _)) => some false
      | _ => none
    | none => some false
theorem wantedA_ok {ops : Array Oper} {st : St} {a : Act} (R : RS B w0 E st a w) {o : Oper} {b : Bool} (hh : wantedA ops st o = some b) :
    Region.wanted o (yielded ops a.tmps) = b := by
  unfold wantedA at hh
  unfold Region.wanted
  split at hh
  · rename_i hg; injection hh with hh; subst hh; simp [hg]
  · rename_i j want hg
    simp only [hg]
    split at hh
    · rename_i t ht
      have hy : yielded ops a.tmps j = match (denL E st.tmps)[t]? with | some (.bool b) => some b | _ => none := by
        unfold yielded
        rw [ht, R.tmps]
        simp
        rfl
      rw [hy, denL_getElem?]
      split at hh
      · rename_i b' hb'
        injection hh with hh
        rw [hb']
        simp only [Option.map_some, den]
        rw [← hh]
        cases b' <;> cases want <;> rfl
      · rename_i u hb'
        injection hh with hh
        subst hh
        rw [hb']
        rfl
      · cases hh
    · rename_i ht
      injection hh with hh
      subst hh
      have hy : yielded ops a.tmps j = none := by
        unfold yielded
        rw [ht]; rfl
      rw [hy]
      cases want <;> rfl
/-- One operation: 'normal' and the new state, or a panic. -/
def evStep (P : Program) (cf : CF) (st : St) (o : Oper) : Option (Ex × St) :=
  match evOp P st.heap st.next st.ev o with
  | some (.val v h nx) => some (.normal, (st.to h nx).put o.dst v)
  | some (.skip h) => some (.normal, (st.to h st.next).put o.dst (.raw undef))
  | some (.enter f args) =>
    match cf f args st.heap st.next with
    | some (.ret v h nx) => some (.normal, (st.to h nx).put o.dst v)
    | some (.pan ch h nx) => some (.panic ch, st.to h nx)
    | none => none
  | some (.dfr d) => some (.normal, St.put { st with defers := d :: st.defers } o.dst (.raw undef))
  | some (.pan v h nx) => some (.panic [(v, false)], st.to h nx)
  | none => none
theorem RS.to_ {st : St} {a : Act} (R : RS B w0 E st a w) {E' : Env} {h' : Heap} {nx' : Nat} {w' : World} (hx : Ext st.next E E') (hn : st.next ≤ nx')
    (H : HI B w0 E' h' nx' w') : RS B w0 E' (st.to h' nx') a w' := by
  have := R.step hx hn (v := .raw undef) rfl H none
  exact this
theorem put_next (st : St) (d : Option Tmp) (v : AV) : (st.put d v).next = st.next := by cases d <;> rfl
/-- What is asked of the rest: K behind 'normal', Q behind a panic. -/
theorem evStep_ok {cf : CF} (hcf : CFok P cf) {st st' : St} {a : Act} (R : RS B w0 E st a w) {o : Oper} {e : Ex} (hh : evStep P cf st o = some (e, st'))
    {K : Act → World → Prop} {Q : Exit → Act → World → Prop}
    (hK : e = .normal → ∀ E' a' w', Ext st.next E E' → st.next ≤ st'.next → RS B w0 E' st' a' w' → K a' w')
    (hQ : ∀ ch, e = .panic ch → ∀ E' a' w', Ext st.next E E' → st.next ≤ st'.next → bdCh st'.next ch = true → RS B w0 E' st' a' w' → Q (.panic (denCh E' ch)) a' w') :
    o.wp P a w K Q := by
  unfold evStep at hh
  unfold Oper.wp
  split at hh
  · rename_i v h nx hop
    simp only [Option.some.injEq, Prod.mk.injEq] at hh
    obtain ⟨rfl, rfl⟩ := hh
    obtain ⟨h1, h2, E', w', h3, h4, h5⟩ := evOp_ok R.hi R.ev hop
    rw [h5]
    exact hK rfl E' _ w' h3 (by rw [put_next]; exact h2) (R.step h3 h2 h1 h4 o.dst)
  · rename_i h hop
    simp only [Option.some.injEq, Prod.mk.injEq] at hh
    obtain ⟨rfl, rfl⟩ := hh
    obtain ⟨w', h4, h5⟩ := evOp_ok R.hi R.ev hop
    rw [h5]
    exact hK rfl E _ w' (Ext.refl _ _) (by rw [put_next]; exact Nat.le_refl _) (R.step (Ext.refl _ _) (Nat.le_refl _) (v := .raw undef) rfl h4 o.dst)
  · rename_i f args hop
    obtain ⟨h1, h5⟩ := evOp_ok R.hi R.ev hop
    rw [h5]
    split at hh
    · rename_i v h nx hc
      simp only [Option.some.injEq, Prod.mk.injEq] at hh
      obtain ⟨rfl, rfl⟩ := hh
      refine (hcf _ _ _ _ _ hc B w0 E w R.hi h1).mono fun e' w' hr => ?_
      cases e' with
      | returned u =>
        obtain ⟨E', a1, a2, a3, a4, a5⟩ := hr
        subst a4
        exact hK rfl E' _ w' a1 (by rw [put_next]; exact a2) (R.step a1 a2 a3 a5 o.dst)
      | panicked c => exact hr.elim
      | outgrown => exact hr.elim
    · rename_i ch h nx hc
      simp only [Option.some.injEq, Prod.mk.injEq] at hh
      obtain ⟨rfl, rfl⟩ := hh
      refine (hcf _ _ _ _ _ hc B w0 E w R.hi h1).mono fun e' w' hr => ?_
      cases e' with
      | returned u => exact hr.elim
      | panicked c =>
        obtain ⟨E', a1, a2, a3, a4, a5⟩ := hr
        subst a4
        exact hQ ch rfl E' a w' a1 a2 a3 (R.to_ a1 a2 a5)
      | outgrown => exact hr.elim
    · cases hh
  · rename_i d hop
    simp only [Option.some.injEq, Prod.mk.injEq] at hh
    obtain ⟨rfl, rfl⟩ := hh
    obtain ⟨h1, h5⟩ := evOp_ok R.hi R.ev hop
    rw [h5]
    have R' : RS B w0 E { st with defers := d :: st.defers } { a with defers := denD E d :: a.defers } w :=
      ⟨R.tmps, by simp [R.defs], R.bt, by simp [h1, R.bds], R.hi⟩
    exact hK rfl E _ w (Ext.refl _ _) (by rw [put_next]; exact Nat.le_refl _) (R'.step (Ext.refl _ _) (Nat.le_refl _) (v := .raw undef) rfl R.hi o.dst)
  · rename_i v h nx hop
    simp only [Option.some.injEq, Prod.mk.injEq] at hh
    obtain ⟨rfl, rfl⟩ := hh
    obtain ⟨h1, h2, E', w', h3, h4, h5⟩ := evOp_ok R.hi R.ev hop
    rw [h5]
    exact hQ _ rfl E' a w' h3 h2 (by simpa [bdCh, St.to] using h1) (R.to_ h3 h2 h4)
  · cases hh

/-! ### a region in the order of the text -/
def evOps (P : Program) (cf : CF) (ops : Array Oper) : List Nat → St → Option (Ex × St)
  | [], st => some (.normal, st)
  | i :: rest, st =>
    match ops[i]? with
    | none => evOps P cf ops rest st
    | some o =>
      match wantedA ops st o with
      | some true =>
        match evStep P cf st o with
        | some (.normal, st') => evOps P cf ops rest st'
        | r => r
      | some false => evOps P cf ops rest (st.put o.dst (.raw undef))
      | none => none
theorem RS.skip {st : St} {a : Act} (R : RS B w0 E st a w) (dst : Option Tmp) : RS B w0 E (st.put dst (.raw undef)) (a.put dst undef) w :=
  R.step (Ext.refl _ _) (Nat.le_refl _) (v := .raw undef) rfl R.hi dst
theorem evStep_ex {cf : CF} {st st' : St} {o : Oper} {e : Ex} (hh : evStep P cf st o = some (e, st')) : e = .normal ∨ ∃ ch, e = .panic ch := by
  unfold evStep at hh
  split at hh
  all_goals first
    | (cases hh; done)
    | (simp only [Option.some.injEq, Prod.mk.injEq] at hh; obtain ⟨rfl, _⟩ := hh; first | exact .inl rfl | exact .inr ⟨_, rfl⟩)
    | (split at hh <;> first
        | (cases hh; done)
        | (simp only [Option.some.injEq, Prod.mk.injEq] at hh; obtain ⟨rfl, _⟩ := hh; first | exact .inl rfl | exact .inr ⟨_, rfl⟩))
theorem evOps_ok {cf : CF} (hcf : CFok P cf) {ops : Array Oper} : ∀ (l : List Nat) {E : Env} {st st' : St} {a : Act} {w : World} {e : Ex}, RS B w0 E st a w →
    evOps P cf ops l st = some (e, st') → ∀ {Q : Exit → Act → World → Prop}, (∀ e' a' w', Post B w0 E st.next e st' e' a' w' → Q e' a' w') → wpOps P ops Q l a w
  | [], E, st, st', a, w, e, R, hh, Q, hQ => by
    simp only [evOps, Option.some.injEq, Prod.mk.injEq] at hh
    obtain ⟨rfl, rfl⟩ := hh
    exact hQ _ _ _ ⟨E, Ext.refl _ _, Nat.le_refl _, rfl, rfl, R⟩
  | i :: rest, E, st, st', a, w, e, R, hh, Q, hQ => by
    simp only [evOps] at hh
    simp only [wpOps]
    cases ho : ops[i]? with
    | none =>
      simp only [ho] at hh ⊢
      exact evOps_ok hcf rest R hh hQ
    | some o =>
      simp only [ho] at hh ⊢
      split at hh
      · rename_i hw
        rw [if_pos (wantedA_ok R hw)]
        refine .inl ?_
        split at hh
        · rename_i st1 hs
          refine evStep_ok hcf R hs (fun _ E' a' w' hx hn R' => ?_) (fun ch hc => by cases hc)
          refine evOps_ok hcf rest R' hh fun e' a'' w'' hp => ?_
          obtain ⟨E'', b1, b2, b3, b4, b5⟩ := hp
          exact hQ _ _ _ ⟨E'', hx.trans b1 hn, Nat.le_trans hn b2, b3, b4, b5⟩
        · rename_i hnot
          refine evStep_ok hcf R hh (fun hc => ?_) (fun ch hc E' a' w' hx hn hb R' => ?_)
          · subst hc; exact absurd hh (hnot _)
          · subst hc
            exact hQ _ _ _ ⟨E', hx, hn, rfl, hb, R'⟩
      · rename_i hw
        rw [if_neg (by rw [wantedA_ok R hw]; simp)]
        have := evOps_ok hcf rest (R.skip o.dst) hh (Q := Q) (by rw [put_next]; exact hQ)
        exact this
      · cases hh
end EngRun
end Go.Proofs.YtlpgfdhihimjaaaGreat.Eng
namespace Go.Proofs.YtlpgfdhihimjaaaGreat.Eng
section EngDraw
open Go Go.RowKit
variable {B : Nat} {w0 : World} {E : Env} {w : World} {P : Program}

/-! ### equality of abstract values (where it says yes) -/
def vb : Value → Value → Bool
  | .bool a, .bool b => a == b
  | .int k a, .int k' b => decide (k = k') && decide (a = b)
  | .string a, .string b => decide (a = b)
  | .pointer none, .pointer none => true
  | .slice none a b, .slice none c d => Nat.beq a c && Nat.beq b d
  | .nilFunc, .nilFunc => true
  | .nilIface, .nilIface => true
  | .func (.func f) a b, .func (.func g) c d => Nat.beq f g && a.isEmpty && b.isEmpty && c.isEmpty && d.isEmpty
  | _, _ => false
theorem vb_ok {x y : Value} (hh : vb x y = true) : x = y := by
  unfold vb at hh
  split at hh
  · simp at hh; rw [hh]
  · simp at hh; rw [hh.1, hh.2]
  · simp at hh; rw [hh]
  · rfl
  · simp only [Bool.and_eq_true] at hh
    rw [Nat.eq_of_beq_eq_true hh.1, Nat.eq_of_beq_eq_true hh.2]
  · rfl
  · rfl
  · simp only [Bool.and_eq_true, Array.isEmpty_iff] at hh
    obtain ⟨⟨⟨⟨h1, h2⟩, h3⟩, h4⟩, h5⟩ := hh
    rw [Nat.eq_of_beq_eq_true h1, h2, h3, h4, h5]
  · cases hh
mutual
def ab : AV → AV → Bool
  | .raw a, .raw b => vb a b
  | .ptr n o, .ptr m p => Nat.beq n m && Nat.beq o p
  | .slc n o l c, .slc m p k d => Nat.beq n m && Nat.beq o p && Nat.beq l k && Nat.beq c d
  | .gsl n l, .gsl m k => Nat.beq n m && Nat.beq l k
  | .iface t v, .iface u x => Nat.beq t u && ab v x
  | .agg a, .agg b => abL a b
  | .tup a, .tup b => abL a b
  | _, _ => false
def abL : List AV → List AV → Bool
  | [], [] => true
  | a :: r, b :: s => ab a b && abL r s
  | _, _ => false
end
mutual
theorem ab_ok : ∀ (x y : AV), ab x y = true → x = y
  | .raw a, y, hh => by
    cases y <;> simp only [ab] at hh <;> first | (cases hh; done) | rw [vb_ok hh]
  | .ptr n o, y, hh => by
    cases y <;> simp only [ab] at hh <;> first | (cases hh; done) | (simp only [Bool.and_eq_true] at hh; rw [Nat.eq_of_beq_eq_true hh.1, Nat.eq_of_beq_eq_true hh.2])
  | .slc n o l c, y, hh => by
    cases y <;> simp only [ab] at hh <;> first | (cases hh; done) | (simp only [Bool.and_eq_true] at hh; rw [Nat.eq_of_beq_eq_true hh.1.1.1, Nat.eq_of_beq_eq_true hh.1.1.2, Nat.eq_of_beq_eq_true hh.1.2, Nat.eq_of_beq_eq_true hh.2])
  | .gsl n l, y, hh => by
    cases y <;> simp only [ab] at hh <;> first | (cases hh; done) | (simp only [Bool.and_eq_true] at hh; rw [Nat.eq_of_beq_eq_true hh.1, Nat.eq_of_beq_eq_true hh.2])
  | .iface t v, y, hh => by
    cases y <;> simp only [ab] at hh <;> first | (cases hh; done) | (simp only [Bool.and_eq_true] at hh; rw [Nat.eq_of_beq_eq_true hh.1, ab_ok v _ hh.2])
  | .agg a, y, hh => by
    cases y <;> simp only [ab] at hh <;> first | (cases hh; done) | rw [abL_ok a _ hh]
  | .tup a, y, hh => by
    cases y <;> simp only [ab] at hh <;> first | (cases hh; done) | rw [abL_ok a _ hh]
  | .fn f a b, y, hh => by cases y <;> simp only [ab] at hh <;> cases hh
theorem abL_ok : ∀ (x y : List AV), abL x y = true → x = y
  | [], y, hh => by cases y <;> simp only [abL] at hh <;> first | (cases hh; done) | rfl
  | a :: r, y, hh => by
    cases y <;> simp only [abL] at hh <;> first | (cases hh; done) | (simp only [Bool.and_eq_true] at hh; rw [ab_ok a _ hh.1, abL_ok r _ hh.2])
end
/-- Block n reads as it did. -/
def sameBlk (h0 h : Heap) (n : Nat) : Bool :=
  match look h0 n, look h n with
  | some (.blk _ cs _), some (.blk _ cs' _) => abL cs cs'
  | _, _ => false
theorem sameBlk_ok {h0 h : Heap} {n off : Nat} {v : AV} (hh : sameBlk h0 h n = true) (hc : cellAt h0 n off = some v) : cellAt h n off = some v := by
  unfold sameBlk at hh
  split at hh
  · rename_i ty cs g ty' cs' g' h1 h2
    have he := abL_ok _ _ hh
    subst he
    simp only [cellAt, h1] at hc
    simp only [cellAt, h2]
    exact hc
  · cases hh

/-! ### the plan of a region that draws its order -/
inductive PStep where
  | take (i : Nat)
  | only (i : Nat)
  | two (i j : Nat)
def isLoad : Op → Bool
  | .load _ _ => true
  | _ => false
def quietOp : Op → Bool
  | .move _ | .assign _ | .pick _ _ _ | .load _ _ | .binOp _ _ _ _ _ | .unOp _ _ _ | .convert _ _ _ | .makeInterface _ _ | .makeFunc _ _ _ | .fieldAddr _ _ _ | .field _ _ _
  | .indexAddr _ _ _ | .index _ _ _ | .extract _ _ | .nilCheck _ | .build _ _ => true
  | _ => false
def quietAt (ops : Array Oper) (i : Nat) : Bool :=
  match ops[i]? with
  | some o => quietOp o.op
  | none => false
def allocAt (ops : Array Oper) (i : Nat) : Option TypeId :=
  match ops[i]? with
  | some o => match o.op, o.guard with
    | .alloc t, none => some t
    | _, _ => none
  | none => none
def rdy (ops : Array Oper) (listed : Array Bool) : List Nat := Region.ready .any ops listed
def planOk (ops : Array Oper) : Array Bool → List PStep → Bool
  | listed, [] => (rdy ops listed).isEmpty
  | listed, .take i :: r => quietAt ops i && Region.free .any ops listed i && (rdy ops listed).contains i && planOk ops (listed.setIfInBounds i true) r
  | listed, .only i :: r => (rdy ops listed == [i]) && planOk ops (listed.setIfInBounds i true) r
  | listed, .two i j :: r => (rdy ops listed == [i, j]) && (rdy ops (listed.setIfInBounds i true) == [j]) && (rdy ops (listed.setIfInBounds j true) == [i]) && !(Nat.beq i j) &&
      planOk ops ((listed.setIfInBounds i true).setIfInBounds j true) r
def mkPlan (ops : Array Oper) : Nat → Array Bool → List PStep
  | 0, _ => []
  | fuel + 1, listed =>
    let rs := rdy ops listed
    match rs.find? fun i => quietAt ops i && Region.free .any ops listed i with
    | some i => .take i :: mkPlan ops fuel (listed.setIfInBounds i true)
    | none =>
      match rs with
      | [i] => .only i :: mkPlan ops fuel (listed.setIfInBounds i true)
      | i :: j :: _ => .two i j :: mkPlan ops fuel ((listed.setIfInBounds i true).setIfInBounds j true)
      | [] => []

/-- What is read ahead of everything else. -/
def S0 (E : Env) (h0 : Heap) (K : List Nat) : World → Prop := fun w' =>
  ∀ n ∈ K, ∀ off v, cellAt h0 n off = some v → w'.cell? ⟨E.ρ n, off, none⟩ = some (den E v)
theorem S0_hi {nx0 nx : Nat} {h0 h : Heap} {E' : Env} {K : List Nat} {wS : World} (H0 : HI B w0 E h0 nx0 wS) (H : HI B w0 E' h nx w) (hx : Ext nx0 E E')
    (hk : K.all (sameBlk h0 h) = true) : S0 E h0 K w := by
  intro n hn off v hc
  have h1 := sameBlk_ok (List.all_eq_true.1 hk n hn) hc
  have h2 := (H.cell h1).1
  have hlt : n < nx0 := by
    unfold cellAt at hc
    split at hc
    · rename_i hl; exact (H0.ent _ _ hl).1
    · cases hc
  have h3 := (H0.cell hc).2
  rw [(hx n hlt).1, den_ext hx v h3] at h2
  exact h2

/-- A quiet operation: its value; the names that it reads. -/
def evQuiet (P : Program) (h : Heap) (ev : Operand → AV) (o : Oper) (K : List Nat) : Option AV :=
  match o.op with
  | .load t a =>
    match ev a with
    | .ptr n off => bif K.contains n then evLoadAt P h t n off else none
    | _ => none
  | .move x => some (ev x)
  | .assign x => some (ev x)
  | .pick c a b =>
    match ev c with
    | .raw (.bool t) => some (bif t then ev a else ev b)
    | _ => none
  | .build t parts => evBuild P t (parts.toList.map fun p => (p.1, ev p.2))
  | .nilCheck x => evNilCheck (ev x)
  | .binOp op t x y _ => evBin P op t x y (ev x) (ev y)
  | .unOp .not _ x =>
    match ev x with
    | .raw (.bool b) => some (.raw (.bool (!b)))
    | _ => none
  | .convert src dst x => evConvert P src dst (ev x)
  | .makeInterface t x => evMakeIface P t (ev x)
  | .makeFunc fn first cap => some (.fn fn (first.toList.map ev) (cap.toList.map ev))
  | .fieldAddr s x f => evFieldAddr P s (ev x) f
  | .field t x f => evField P t (ev x) f
  | .indexAddr t x i => evIndexAddr P t (ev x) (ev i)
  | .index t x i => evIndex P t (ev x) (ev i)
  | .extract x i => evExtract (ev x) i
  | _ => none
/-- It yields that value in every world that meets S. -/
theorem evQuiet_ok {h : Heap} {ev : Operand → AV} {evc : Operand → Value} (hev : ∀ x, evc x = den E (ev x)) {o : Oper} {K : List Nat} {v : AV}
    (hh : evQuiet P h ev o K = some v) {w : World} (hS : S0 E h K w) : (execOp evc o).run P w = .ok (.value (den E v)) w := by
  obtain ⟨dst, op, ty, pos, after, guard⟩ := o
  unfold evQuiet at hh
  simp only at hh
  cases op <;> (try simp only at hh) <;> (try (cases hh; done)) <;> (try simp only [execOp])
  case load t a =>
    split at hh
    · rename_i n off ha
      cases hk : K.contains n with
      | false => rw [hk] at hh; cases hh
      | true =>
        rw [hk] at hh
        simp only [cond_true] at hh
        have hn : n ∈ K := by simpa using hk
        refine run_nextOf ?_
        rw [hev a, ha]
        simp only [Instr.loadAt, den, Instr.sureAddr, pure_bind]
        unfold evLoadAt at hh
        split at hh
        · rename_i hag
          split at hh
          · rename_i k hsz
            split at hh
            · rename_i l hl
              injection hh with hh
              subst hh
              obtain ⟨h1, h2⟩ := cellsAt_cell hl
              have h3 : ∀ j v, (denL E l)[j]? = some v → w.cell? ((⟨E.ρ n, off, none⟩ : Addr).add j) = some v := by
                intro j v hv
                rw [denL_getElem?] at hv
                cases hj : l[j]? with
                | none => simp [hj] at hv
                | some x =>
                  simp [hj] at hv
                  rw [addr_add, ← hv]
                  exact hS n hn _ _ (h2 j x hj)
              have h4 := run_loadCells_list (P := P) w ⟨E.ρ n, off, none⟩ (denL E l) h3
              rw [denL_length, h1] at h4
              simp [loadVar, run_isAgg hag, run_sizeT hsz, h4, den]
            · cases hh
          · cases hh
        · rename_i hag
          have h1 := hS n hn _ _ hh
          simp [loadVar, run_isAgg hag, h1]
        · cases hh
    · cases hh
  case move x => injection hh with hh; subst hh; rw [hev]; rfl
  case assign x => injection hh with hh; subst hh; rw [hev]; rfl
  case pick c a b =>
    split at hh
    · rename_i t ht
      injection hh with hh; subst hh
      rw [hev c, ht, hev a, hev b]
      cases t <;> simp [den, asBool]
    · cases hh
  case build t parts =>
    refine run_nextOf ?_
    rw [map_parts hev]
    exact evBuild_ok hh E w
  case nilCheck x =>
    unfold evNilCheck at hh
    rw [hev x]
    split at hh
    · rename_i n off hx
      injection hh with hh; subst hh
      rw [← den_view E (ev x), hx]; rfl
    · rename_i t u hx
      injection hh with hh; subst hh
      rw [← den_view E (ev x), hx]; rfl
    · rename_i g a b hx
      injection hh with hh; subst hh
      rw [← den_view E (ev x), hx]; rfl
    · cases hh
  case binOp op t x y yt =>
    refine run_nextOf ?_
    rw [hev x, hev y]
    exact evBin_ok hh E w
  case unOp op t x =>
    cases op <;> simp only at hh
    case not =>
      split at hh
      · rename_i b hb
        injection hh with hh; subst hh
        refine run_nextOf ?_
        rw [hev x, hb]
        rfl
      · cases hh
    all_goals cases hh
  case convert src dst x =>
    refine run_nextOf ?_
    rw [hev x]
    exact evConvert_ok hh E w
  case makeInterface t x =>
    refine run_nextOf ?_
    unfold evMakeIface at hh
    rw [hev x]
    split at hh
    · rename_i d hu
      cases hi : isIfaceD d with
      | true => simp [hi] at hh
      | false =>
        simp only [hi, cond_false, Option.some.injEq] at hh
        subst hh
        unfold Instr.makeInterface
        rw [Sem.run_bind, run_und hu]
        cases d <;> first | rfl | (simp [isIfaceD] at hi)
    · cases hh
  case makeFunc fn first cap =>
    injection hh with hh; subst hh
    refine run_nextOf ?_
    rw [map_ev hev, map_ev hev]
    rfl
  case fieldAddr s x f =>
    refine run_nextOf ?_
    rw [hev x]
    exact evFieldAddr_ok hh E w
  case field t x f =>
    refine run_nextOf ?_
    rw [hev x]
    exact evField_ok hh E w
  case indexAddr t x i =>
    refine run_nextOf ?_
    rw [hev x, hev i]
    exact evIndexAddr_ok hh E w
  case index t x i =>
    refine run_nextOf ?_
    rw [hev x, hev i]
    exact evIndex_ok hh E w
  case extract x i =>
    refine run_nextOf ?_
    rw [hev x]
    exact evExtract_ok hh E w

/-! ### the plan carried out -/
theorem S0_ext {nx0 : Nat} {h0 : Heap} {E' : Env} {K : List Nat} {wS : World} (H0 : HI B w0 E h0 nx0 wS) (hx : Ext nx0 E E') {w : World} (hS : S0 E h0 K w) : S0 E' h0 K w := by
  intro n hn off v hc
  have hlt : n < nx0 := by
    unfold cellAt at hc
    split at hc
    · rename_i hl; exact (H0.ent _ _ hl).1
    · cases hc
  have h3 := (H0.cell hc).2
  rw [(hx n hlt).1, den_ext hx v h3]
  exact hS n hn off v hc

def dstOf (ops : Array Oper) (i : Nat) : Option Tmp := (ops[i]?).bind (·.dst)
def dstNe (a b : Option Tmp) : Bool :=
  match a, b with
  | some x, some y => !(Nat.beq x y)
  | _, _ => true
def runPlan (P : Program) (cf : CF) (ops : Array Oper) (h0 : Heap) (K : List Nat) : List PStep → St → Option St
  | [], st => some st
  | .take i :: r, st =>
    match ops[i]? with
    | some o =>
      match wantedA ops st o with
      | some true =>
        match evQuiet P h0 st.ev o K with
        | some v => bif bd st.next v then runPlan P cf ops h0 K r (st.put o.dst v) else none
        | none => none
      | some false => runPlan P cf ops h0 K r (st.put o.dst (.raw undef))
      | none => none
    | none => none
  | .only i :: r, st =>
    match ops[i]? with
    | some o =>
      match wantedA ops st o with
      | some true =>
        match evStep P cf st o with
        | some (.normal, st') => bif K.all (sameBlk h0 st'.heap) then runPlan P cf ops h0 K r st' else none
        | _ => none
      | some false => runPlan P cf ops h0 K r (st.put o.dst (.raw undef))
      | none => none
    | none => none
  | .two i j :: r, st =>
    match allocAt ops i, allocAt ops j with
    | some t, some u =>
      match zeroOf P t, zeroOf P u with
      | some z, some y =>
        bif dstNe (dstOf ops i) (dstOf ops j) && K.all (sameBlk h0 ((st.next + 1, .blk u (rawCells y) none) :: (st.next, .blk t (rawCells z) none) :: st.heap)) then
          runPlan P cf ops h0 K r (((st.to ((st.next + 1, .blk u (rawCells y) none) :: (st.next, .blk t (rawCells z) none) :: st.heap) (st.next + 2)).put (dstOf ops i) (.ptr st.next 0)).put (dstOf ops j) (.ptr (st.next + 1) 0))
        else none
      | _, _ => none
    | _, _ => none
def planLen : List PStep → Nat
  | [] => 0
  | .two _ _ :: r => planLen r + 2
  | _ :: r => planLen r + 1

theorem allocAt_ok {ops : Array Oper} {i : Nat} {t : TypeId} (hh : allocAt ops i = some t) : ∃ o, ops[i]? = some o ∧ o.op = .alloc t ∧ o.guard = none := by
  unfold allocAt at hh
  split at hh
  · rename_i o ho
    split at hh
    · rename_i u h1 h2
      injection hh with hh; subst hh
      exact ⟨o, ho, h1, h2⟩
    · cases hh
  · cases hh
theorem wpOp_alloc {ops : Array Oper} {Q : Exit → Act → World → Prop} {i : Nat} {t : TypeId} {z : Value} {K : Act → World → Prop} {a : Act} (hi : allocAt ops i = some t) (hz : zeroOf P t = some z) {w : World}
    (hK : K (a.put (dstOf ops i) (.pointer (some ⟨w.heap.size, 0, none⟩))) (w.alloc (.cells z.cells t))) : wpOp P ops Q i K a w := by
  obtain ⟨o, h1, h2, h3⟩ := allocAt_ok hi
  unfold wpOp
  simp only [h1]
  rw [if_pos (by simp [Region.wanted, h3])]
  refine .inl ?_
  unfold Oper.wp
  have hr : (execOp a.eval o).run P w = .ok (.value (.pointer (some ⟨w.heap.size, 0, none⟩))) (w.alloc (.cells z.cells t)) := by
    obtain ⟨dst, op, ty, pos, after, guard⟩ := o
    simp only at h2 h3
    subst h2
    simp only [execOp]
    exact run_nextOf (by simp [Instr.alloc, run_zeroOf hz, newVar, newRow])
  rw [hr]
  simp only [Oper.upon]
  have hd : dstOf ops i = o.dst := by simp [dstOf, h1]
  rw [← hd]
  exact hK

/-- Two new variables, laid in this order or in that. -/
theorem two_new {h : Heap} {nx : Nat} (H : HI B w0 E h nx w) {t u : TypeId} {z y : Value} :
    (∃ E', Ext nx E E' ∧ E'.ρ nx = w.heap.size ∧ E'.ρ (nx + 1) = w.heap.size + 1 ∧
      HI B w0 E' ((nx + 1, .blk u (rawCells y) none) :: (nx, .blk t (rawCells z) none) :: h) (nx + 2) ((w.alloc (.cells z.cells t)).alloc (.cells y.cells u))) ∧
    (∃ E', Ext nx E E' ∧ E'.ρ nx = w.heap.size + 1 ∧ E'.ρ (nx + 1) = w.heap.size ∧
      HI B w0 E' ((nx + 1, .blk u (rawCells y) none) :: (nx, .blk t (rawCells z) none) :: h) (nx + 2) ((w.alloc (.cells y.cells u)).alloc (.cells z.cells t))) := by
  have key : ∀ (w2 : World) (g k : Nat), Below B w0 w2 → B ≤ w2.heap.size → (∀ b, b < w.heap.size → w2.heap[b]? = w.heap[b]?) → w.heap.size ≤ g → w.heap.size ≤ k → g ≠ k →
      w2.heap[g]? = some (.cells z.cells t (0, 0)) → w2.heap[k]? = some (.cells y.cells u (0, 0)) →
      ∃ E', Ext nx E E' ∧ E'.ρ nx = g ∧ E'.ρ (nx + 1) = k ∧ HI B w0 E' ((nx + 1, .blk u (rawCells y) none) :: (nx, .blk t (rawCells z) none) :: h) (nx + 2) w2 := by
    intro w2 g k hb hs hkeep hg hk hne h1 h2
    have H1 := H.add (w' := w2) (g := g) (k := 0) (o := .blk t (rawCells z) none) hb hs (fun n o hl => hkeep _ (H.ent n o hl).2.2.2.lt) (Nat.le_trans H.size hg)
      (fun n o hl => by have := (H.ent n o hl).2.2.2.lt; omega) (rawCells_bd nx z) (by
        simp only [Ent, Env.set_ρ]
        rw [h1, ← rawCells_den])
    have H2 := H1.add (w' := w2) (g := k) (k := 0) (o := .blk u (rawCells y) none) hb hs (fun n o hl => rfl) (Nat.le_trans H.size hk)
      (fun n o hl => by
        by_cases hn : n = nx
        · subst hn
          rw [Env.set_ρ]; exact hne
        · have hl' : look h n = some o := by
            simp only [look] at hl
            cases hbq : Nat.beq nx n with
            | true => exact absurd (Nat.eq_of_beq_eq_true hbq).symm hn
            | false => simpa [hbq] using hl
          have h3 := H.ent n o hl'
          rw [((Env.set_ext E nx g 0) n h3.1).1]
          have := h3.2.2.2.lt
          omega) (rawCells_bd (nx + 1) y) (by
        simp only [Ent, Env.set_ρ]
        rw [h2, ← rawCells_den])
    refine ⟨_, (Env.set_ext E nx g 0).trans (Env.set_ext _ (nx + 1) k 0) (Nat.le_succ _), ?_, Env.set_ρ _ _ _ _, H2⟩
    rw [((Env.set_ext _ (nx + 1) k 0) nx (Nat.lt_succ_self _)).1, Env.set_ρ]
  have two : ∀ (o1 o2 : Obj), Below B w0 ((w.alloc o1).alloc o2) ∧ B ≤ ((w.alloc o1).alloc o2).heap.size ∧ (∀ b, b < w.heap.size → ((w.alloc o1).alloc o2).heap[b]? = w.heap[b]?) ∧
      ((w.alloc o1).alloc o2).heap[w.heap.size]? = some o1 ∧ ((w.alloc o1).alloc o2).heap[w.heap.size + 1]? = some o2 := by
    intro o1 o2
    have hs := H.size
    refine ⟨(H.below.alloc hs o1).alloc (by simp; omega) o2, by simp; omega, fun b hb => ?_, ?_, ?_⟩
    · rw [Below.heap_alloc _ _ _ (by simp; omega), Below.heap_alloc _ _ _ hb]
    · rw [Below.heap_alloc _ _ _ (by simp)]
      exact heap_alloc_new w o1
    · have := heap_alloc_new (w.alloc o1) o2
      simpa using this
  constructor
  · obtain ⟨a1, a2, a3, a4, a5⟩ := two (.cells z.cells t) (.cells y.cells u)
    exact key _ _ _ a1 a2 a3 (Nat.le_refl _) (Nat.le_succ _) (by omega) a4 a5
  · obtain ⟨a1, a2, a3, a4, a5⟩ := two (.cells y.cells u) (.cells z.cells t)
    exact key _ _ _ a1 a2 a3 (Nat.le_succ _) (Nat.le_refl _) (by omega) a5 a4

theorem runPlan_ok {cf : CF} (hcf : CFok P cf) {ops : Array Oper} {h0 : Heap} {K : List Nat} {nx0 : Nat} {wS : World} (H0 : HI B w0 E h0 nx0 wS) (hsel : Region.noSelect ops = true)
    {Q : Exit → Act → World → Prop} (hQp : ∀ c a w, ¬ Q (.panic c) a w) {stF : St}
    (hQ : ∀ E' a' w', Ext nx0 E E' → nx0 ≤ stF.next → RS B w0 E' stF a' w' → Q .normal a' w') :
    ∀ (plan : List PStep) (listed : Array Bool) (st : St) (E' : Env) (a : Act) (w : World) (fuel : Nat), planOk ops listed plan = true → runPlan P cf ops h0 K plan st = some stF →
      RS B w0 E' st a w → Ext nx0 E E' → nx0 ≤ st.next → S0 E h0 K w → planLen plan ≤ fuel → wpAnyH P .any ops Q (S0 E h0 K) fuel listed a w
  | [], listed, st, E', a, w, fuel, hp, hh, R, hx, hn, hS, hf => by
    simp only [runPlan, Option.some.injEq] at hh
    subst hh
    simp only [planOk, List.isEmpty_iff] at hp
    exact wpAnyH_done hp (hQ E' a w hx hn R) fuel
  | .take i :: r, listed, st, E', a, w, fuel, hp, hh, R, hx, hn, hS, hf => by
    simp only [planOk, Bool.and_eq_true] at hp
    obtain ⟨⟨⟨hp1, hp2⟩, hp3⟩, hp4⟩ := hp
    simp only [planLen] at hf
    obtain ⟨fuel, rfl⟩ : ∃ m, fuel = m + 1 := ⟨fuel - 1, by omega⟩
    simp only [runPlan] at hh
    split at hh
    · rename_i o ho
      split at hh
      · rename_i hw
        split at hh
        · rename_i v hv
          cases hb : bd st.next v with
          | false => simp [hb] at hh
          | true =>
            simp only [hb, cond_true] at hh
            refine wpAnyH_take ho hsel hp2 hp3 (v := den E' v) (fun c a w hq => absurd hq (hQp _ _ _)) (.inl ⟨wantedA_ok R hw, fun w' hS' => evQuiet_ok R.ev hv (S0_ext H0 hx hS')⟩) hS ?_
            exact runPlan_ok hcf H0 hsel hQp hQ r _ _ E' _ w fuel hp4 hh (R.step (Ext.refl _ _) (Nat.le_refl _) hb R.hi o.dst) hx (by rw [put_next]; exact hn) hS (by omega)
        · cases hh
      · rename_i hw
        refine wpAnyH_take ho hsel hp2 hp3 (v := undef) (fun c a w hq => absurd hq (hQp _ _ _)) (.inr ⟨wantedA_ok R hw, rfl⟩) hS ?_
        exact runPlan_ok hcf H0 hsel hQp hQ r _ _ E' _ w fuel hp4 hh (R.skip o.dst) hx (by rw [put_next]; exact hn) hS (by omega)
      · cases hh
    · cases hh
  | .only i :: r, listed, st, E', a, w, fuel, hp, hh, R, hx, hn, hS, hf => by
    simp only [planOk, Bool.and_eq_true, beq_iff_eq] at hp
    obtain ⟨hp1, hp4⟩ := hp
    simp only [planLen] at hf
    obtain ⟨fuel, rfl⟩ : ∃ m, fuel = m + 1 := ⟨fuel - 1, by omega⟩
    simp only [runPlan] at hh
    refine wpAnyH_all hp1 (by simp) fun k hk => ?_
    have hk' : k = i := by simpa using hk
    subst hk'
    split at hh
    · rename_i o ho
      unfold wpOp
      simp only [ho]
      split at hh
      · rename_i hw
        rw [if_pos (wantedA_ok R hw)]
        split at hh
        · rename_i st1 hs
          cases hkk : K.all (sameBlk h0 st1.heap) with
          | false => simp [hkk] at hh
          | true =>
            simp only [hkk, cond_true] at hh
            refine .inl (evStep_ok hcf R hs (fun _ E'' a' w' hx' hn' R' => ?_) (fun ch hc => by cases hc))
            have hx2 := hx.trans hx' hn
            exact ⟨S0_hi H0 R'.hi hx2 hkk, runPlan_ok hcf H0 hsel hQp hQ r _ _ E'' _ w' fuel hp4 hh R' hx2 (Nat.le_trans hn hn') (S0_hi H0 R'.hi hx2 hkk) (by omega)⟩
        · cases hh
      · rename_i hw
        rw [if_neg (by rw [wantedA_ok R hw]; simp)]
        exact ⟨hS, runPlan_ok hcf H0 hsel hQp hQ r _ _ E' _ w fuel hp4 hh (R.skip o.dst) hx (by rw [put_next]; exact hn) hS (by omega)⟩
      · cases hh
    · cases hh
  | .two i j :: r, listed, st, E', a, w, fuel, hp, hh, R, hx, hn, hS, hf => by
    simp only [planOk, Bool.and_eq_true, beq_iff_eq] at hp
    obtain ⟨⟨⟨⟨hp1, hp2⟩, hp3⟩, hp5⟩, hp4⟩ := hp
    simp only [planLen] at hf
    obtain ⟨fuel, rfl⟩ : ∃ m, fuel = m + 1 + 1 := ⟨fuel - 2, by omega⟩
    simp only [runPlan] at hh
    split at hh
    · rename_i t u hi hj
      split at hh
      · rename_i z y hz hy
        cases hc : (dstNe (dstOf ops i) (dstOf ops j) && K.all (sameBlk h0 ((st.next + 1, .blk u (rawCells y) none) :: (st.next, .blk t (rawCells z) none) :: st.heap))) with
        | false => simp [hc] at hh
        | true =>
          simp only [hc, cond_true] at hh
          simp only [Bool.and_eq_true] at hc
          obtain ⟨hd, hkk⟩ := hc
          obtain ⟨⟨E1, x1, r1, r1', H1⟩, ⟨E2, x2, r2, r2', H2⟩⟩ := two_new R.hi (t := t) (u := u) (z := z) (y := y)
          have fin : ∀ (E'' : Env) (a' : Act) (w' : World), Ext st.next E' E'' →
              HI B w0 E'' ((st.next + 1, .blk u (rawCells y) none) :: (st.next, .blk t (rawCells z) none) :: st.heap) (st.next + 2) w' →
              a' = (a.put (dstOf ops i) (den E'' (.ptr st.next 0))).put (dstOf ops j) (den E'' (.ptr (st.next + 1) 0)) →
              S0 E h0 K w' ∧ wpAnyH P .any ops Q (S0 E h0 K) fuel ((listed.setIfInBounds i true).setIfInBounds j true) a' w' := by
            intro E'' a' w' hx' H' ha
            have hx2 := hx.trans hx' hn
            have hS' := S0_hi H0 H' hx2 hkk
            subst ha
            have R1 := R.step hx' (Nat.le_add_right _ 2) (v := .ptr st.next 0) (by simp [bd, Nat.blt, Nat.ble_eq]) H' (dstOf ops i)
            have R2 := R1.step (Ext.refl _ _) (Nat.le_refl _) (v := .ptr (st.next + 1) 0) (by rw [put_next]; simp [St.to, bd, Nat.blt, Nat.ble_eq]) R1.hi (dstOf ops j)
            have e : ((St.to (St.put (St.to st ((st.next + 1, .blk u (rawCells y) none) :: (st.next, .blk t (rawCells z) none) :: st.heap) (st.next + 2)) (dstOf ops i) (.ptr st.next 0))
                (St.put (St.to st ((st.next + 1, .blk u (rawCells y) none) :: (st.next, .blk t (rawCells z) none) :: st.heap) (st.next + 2)) (dstOf ops i) (.ptr st.next 0)).heap
                (St.put (St.to st ((st.next + 1, .blk u (rawCells y) none) :: (st.next, .blk t (rawCells z) none) :: st.heap) (st.next + 2)) (dstOf ops i) (.ptr st.next 0)).next).put (dstOf ops j) (.ptr (st.next + 1) 0)) =
                (((st.to ((st.next + 1, .blk u (rawCells y) none) :: (st.next, .blk t (rawCells z) none) :: st.heap) (st.next + 2)).put (dstOf ops i) (.ptr st.next 0)).put (dstOf ops j) (.ptr (st.next + 1) 0)) := rfl
            rw [e] at R2
            exact ⟨hS', runPlan_ok hcf H0 hsel hQp hQ r _ _ E'' _ w' fuel hp4 hh R2 hx2 (by rw [put_next, put_next]; simp only [St.to]; omega) hS' (by omega)⟩
          have hsame : ∀ o : Obj, S0 E h0 K (w.alloc o) := fun o n hn' off v hcell => by
            have h1 := hS n hn' off v hcell
            rw [World.cell?_alloc_lt w o _ (World.block_lt_of_cell? w _ h1)]
            exact h1
          refine wpAnyH_all hp1 (by simp) fun k hk => ?_
          have hk' : k = i ∨ k = j := by simpa using hk
          rcases hk' with rfl | rfl
          · refine wpOp_alloc hi hz ⟨hsame _, ?_⟩
            refine wpAnyH_all hp2 (by simp) fun k' hk' => ?_
            have hk'' : k' = j := by simpa using hk'
            subst hk''
            refine wpOp_alloc hj hy ?_
            refine fin E1 _ _ x1 H1 ?_
            simp only [den, r1, r1', World.size_alloc]
          · refine wpOp_alloc hj hy ⟨hsame _, ?_⟩
            refine wpAnyH_all hp3 (by simp) fun k' hk' => ?_
            have hk'' : k' = i := by simpa using hk'
            subst hk''
            refine wpOp_alloc hi hz ?_
            have hij : k' ≠ k := fun e => by subst e; simp at hp5
            rw [Array.setIfInBounds_comm _ _ (Ne.symm hij)]
            refine fin E2 _ _ x2 H2 ?_
            simp only [den, r2, r2', World.size_alloc]
            refine Act.put_comm _ _ _ fun d hd1 hd2 => ?_
            rw [hd1, hd2] at hd
            simp [dstNe] at hd
      · cases hh
    · cases hh
/-- The names that the early loads read. -/
def evDraw (P : Program) (cf : CF) (ops : Array Oper) (plan : List PStep) (K : List Nat) (st : St) : Option (Ex × St) :=
  bif Region.noSelect ops && planOk ops (Array.replicate ops.size false) plan && Nat.ble (planLen plan) ops.size && K.all (fun n => sameBlk st.heap st.heap n) then
    match runPlan P cf ops st.heap K plan st with
    | some st' => some (.normal, st')
    | none => none
  else none
theorem evDraw_ok {cf : CF} (hcf : CFok P cf) (hm : P.follows .mixedOrders = true) {ops : Array Oper} {plan : List PStep} {K : List Nat} {st st' : St} {a : Act} (R : RS B w0 E st a w) {e : Ex}
    (hh : evDraw P cf ops plan K st = some (e, st')) {id : Nat} {Q : Exit → Act → World → Prop} (hQ : ∀ e' a' w', Post B w0 E st.next e st' e' a' w' → Q e' a' w') :
    (Code.region id ops true).wp P Q a w := by
  unfold evDraw at hh
  cases hc : (Region.noSelect ops && planOk ops (Array.replicate ops.size false) plan && Nat.ble (planLen plan) ops.size && K.all (fun n => sameBlk st.heap st.heap n)) with
  | false => simp [hc] at hh
  | true =>
    simp only [hc, cond_true] at hh
    simp only [Bool.and_eq_true, Nat.ble_eq] at hc
    obtain ⟨⟨⟨h1, h2⟩, h3⟩, h4⟩ := hc
    split at hh
    · rename_i stF hr
      simp only [Option.some.injEq, Prod.mk.injEq] at hh
      obtain ⟨rfl, rfl⟩ := hh
      have R' : RS B w0 E st a { w with drawn := w.drawn + 1 } := ⟨R.tmps, R.defs, R.bt, R.bds, R.hi.drew⟩
      refine Code.wp_mono (Q := fun e a w => e = .normal ∧ Q e a w) (fun _ _ _ hq => hq.2) (wp_region_held (S := S0 E st.heap K) hm ?_)
      refine runPlan_ok hcf R'.hi h1 (fun c a w hq => by cases hq.1) (fun E' a' w' hx hn RR => ⟨rfl, hQ _ _ _ ⟨E', hx, hn, rfl, rfl, RR⟩⟩) plan _ st E a _ ops.size h2 hr R' (Ext.refl _ _) (Nat.le_refl _)
        (S0_hi R'.hi R'.hi (Ext.refl _ _) h4) h3
    · cases hh
end EngDraw
end Go.Proofs.YtlpgfdhihimjaaaGreat.Eng
namespace Go.Proofs.YtlpgfdhihimjaaaGreat.Eng
section EngCode
open Go Go.RowKit
variable {B : Nat} {w0 : World} {E : Env} {w : World} {P : Program}

/-! ### plans -/
def loadAt (ops : Array Oper) (i : Nat) : Bool :=
  match ops[i]? with
  | some o => isLoad o.op
  | none => false
def planFrom (ops : Array Oper) : Nat → Bool → Array Bool → List PStep
  | 0, _, _ => []
  | fuel + 1, early, listed =>
    let rs := rdy ops listed
    match rs.find? fun i => quietAt ops i && (early || !(loadAt ops i)) && Region.free .any ops listed i with
    | some i => .take i :: planFrom ops fuel early (listed.setIfInBounds i true)
    | none =>
      match rs with
      | [i] => .only i :: planFrom ops fuel false (listed.setIfInBounds i true)
      | i :: j :: _ => .two i j :: planFrom ops fuel false ((listed.setIfInBounds i true).setIfInBounds j true)
      | [] => []
def planOf (ops : Array Oper) : List PStep := planFrom ops (ops.size + 1) true (Array.replicate ops.size false)
def preK (P : Program) (ops : Array Oper) (h0 : Heap) : List PStep → St → List Nat → List Nat
  | .take i :: r, st, K =>
    match ops[i]? with
    | some o =>
      match wantedA ops st o with
      | some true =>
        match o.op with
        | .load t a =>
          match st.ev a with
          | .ptr n off => match evLoadAt P h0 t n off with
            | some v => preK P ops h0 r (st.put o.dst v) (bif K.contains n then K else n :: K)
            | none => K
          | _ => K
        | _ => match evQuiet P h0 st.ev o [] with
          | some v => preK P ops h0 r (st.put o.dst v) K
          | none => K
      | some false => preK P ops h0 r (st.put o.dst (.raw undef)) K
      | none => K
    | none => K
  | _, _, K => K

/-! ### code -/
def evC (P : Program) (cf : CF) : Nat → Bool → Code → St → Option (Ex × St)
  | 0, _, _, _ => none
  | fuel + 1, true, c, st =>
    match evC P cf fuel false c st with
    | some (.normal, st') => evC P cf fuel true c st'
    | r => r
  | fuel + 1, false, c, st =>
    match c with
    | .skip => some (.normal, st)
    | .label _ => some (.normal, st)
    | .region _ ops false => evOps P cf ops (List.range ops.size) st
    | .region _ ops true => evDraw P cf ops (planOf ops) (preK P ops st.heap (planOf ops) st []) st
    | .seq a b =>
      match evC P cf fuel false a st with
      | some (.normal, st') => evC P cf fuel false b st'
      | r => r
    | .cond x a b =>
      match st.ev x with
      | .raw (.bool true) => evC P cf fuel false a st
      | .raw (.bool false) => evC P cf fuel false b st
      | _ => none
    | .block id b =>
      match evC P cf fuel false b st with
      | some (.exit id', st') => bif Nat.beq id' id then some (.normal, st') else some (.exit id', st')
      | r => r
    | .loop b => evC P cf fuel true b st
    | .exit id => some (.exit id, st)
    | .ret => some (.ret, st)
    | _ => none

theorem Post.mono {nx nx' : Nat} {E' : Env} {e : Ex} {st' : St} (hx : Ext nx E E') (hn : nx ≤ nx') {e' : Exit} {a' : Act} {w' : World} (hh : Post B w0 E' nx' e st' e' a' w') : Post B w0 E nx e st' e' a' w' := by
  obtain ⟨E'', b1, b2, b3, b4, b5⟩ := hh
  exact ⟨E'', hx.trans b1 hn, Nat.le_trans hn b2, b3, b4, b5⟩

/-- Within a loop, at the head of its body. -/
def wpIn (P : Program) (c : Code) (Q : Exit → Act → World → Prop) (a : Act) (w : World) : Prop :=
  ∀ (b : Frame) (k : List Item) (cs : List Frame), ∃ e a' w', Q e a' w' ∧ Arrives P (lone (b.at a (.code c :: .inLoop c :: k)) cs w) b k cs e a' w'
theorem wpIn_step {c : Code} {Q : Exit → Act → World → Prop} {a : Act} {w : World} (hh : c.wp P (Exit.then (wpIn P c Q) Q) a w) : wpIn P c Q a w := by
  intro b k cs
  obtain ⟨e, a₁, w₁, hq, harr⟩ := hh b (.inLoop c :: k) cs
  cases e with
  | normal =>
    obtain ⟨e₂, a₂, w₂, hq₂, harr₂⟩ := hq b k cs
    exact ⟨e₂, a₂, w₂, hq₂, .of_steps (Steps.trans harr (.one step_inLoop)) harr₂⟩
  | exit id => exact ⟨_, a₁, w₁, hq, .pass (x := .inLoop c) rfl (fun _ _ => .inl (by simp)) harr⟩
  | goto l => exact ⟨_, a₁, w₁, hq, .pass (x := .inLoop c) rfl (fun _ _ => .inl (by simp)) harr⟩
  | ret => exact ⟨_, a₁, w₁, hq, .pass (x := .inLoop c) rfl (fun _ _ => .inl (by simp)) harr⟩
  | panic ch => exact ⟨_, a₁, w₁, hq, .pass (x := .inLoop c) rfl (fun _ _ => .inl (by simp)) harr⟩
  | outgrown => exact ⟨_, a₁, w₁, hq, .pass (x := .inLoop c) rfl (fun _ _ => .inl (by simp)) harr⟩
theorem loop_of_in {c : Code} {Q : Exit → Act → World → Prop} {a : Act} {w : World} (hh : wpIn P c Q a w) : (Code.loop c).wp P Q a w := by
  intro b k cs
  obtain ⟨e, a', w', hq, harr⟩ := hh b k cs
  exact ⟨e, a', w', hq, .of_steps (.one step_loop) harr⟩
theorem wpIn_mono {c : Code} {Q Q' : Exit → Act → World → Prop} (hq : ∀ e a w, Q e a w → Q' e a w) {a : Act} {w : World} (hh : wpIn P c Q a w) : wpIn P c Q' a w :=
  fun b k cs => let ⟨e, a', w', q, r⟩ := hh b k cs; ⟨e, a', w', hq _ _ _ q, r⟩

theorem evC_ok {cf : CF} (hcf : CFok P cf) (hm : P.follows .mixedOrders = true) : ∀ (fuel : Nat) (inl : Bool) (c : Code) {E : Env} {st st' : St} {a : Act} {w : World} {e : Ex}, RS B w0 E st a w →
    evC P cf fuel inl c st = some (e, st') → (inl = false → c.wp P (Post B w0 E st.next e st') a w) ∧ (inl = true → wpIn P c (Post B w0 E st.next e st') a w)
  | 0, _, _, E, st, st', a, w, e, R, hh => by simp [evC] at hh
  | fuel + 1, true, c, E, st, st', a, w, e, R, hh => by
    refine ⟨fun hf => (by cases hf), fun _ => wpIn_step ?_⟩
    simp only [evC] at hh
    split at hh
    · rename_i st1 h1
      have ih := (evC_ok hcf hm fuel false c R h1).1 rfl
      refine Code.wp_mono (fun e' a' w' hp => ?_) ih
      obtain ⟨E', b1, b2, b3, b4, b5⟩ := hp
      subst b3
      exact wpIn_mono (fun _ _ _ hq => Post.mono b1 b2 hq) ((evC_ok hcf hm fuel true c b5 hh).2 rfl)
    · rename_i hnot
      have ih := (evC_ok hcf hm fuel false c R hh).1 rfl
      refine Code.wp_mono (fun e' a' w' hp => ?_) ih
      have he : e' ≠ .normal := by
        obtain ⟨E', _, _, b3, _⟩ := hp
        intro h'
        rw [h'] at b3
        cases e with
        | normal => exact hnot _ hh
        | _ => cases b3
      cases e' <;> first | exact absurd rfl he | exact hp
  | fuel + 1, false, c, E, st, st', a, w, e, R, hh => by
    refine ⟨fun _ => ?_, fun hf => (by cases hf)⟩
    have here : ∀ {e' : Ex}, e = e' → st = st' → bdEx st'.next e' = true → Post B w0 E st.next e st' (denEx E e') a w := by
      rintro e' rfl rfl hb
      exact ⟨E, Ext.refl _ _, Nat.le_refl _, rfl, hb, R⟩
    cases c with
    | skip =>
      simp only [evC, Option.some.injEq, Prod.mk.injEq] at hh
      exact wp_skip (here (e' := .normal) hh.1.symm hh.2 rfl)
    | label l =>
      simp only [evC, Option.some.injEq, Prod.mk.injEq] at hh
      exact wp_label (here (e' := .normal) hh.1.symm hh.2 rfl)
    | region id ops d =>
      cases d with
      | false =>
        simp only [evC] at hh
        exact wp_region (evOps_ok hcf _ R hh fun _ _ _ hp => hp)
      | true =>
        simp only [evC] at hh
        exact evDraw_ok hcf hm R hh fun _ _ _ hp => hp
    | seq x y =>
      simp only [evC] at hh
      split at hh
      · rename_i st1 h1
        refine wp_seq (Code.wp_mono (fun e' a' w' hp => ?_) ((evC_ok hcf hm fuel false x R h1).1 rfl))
        obtain ⟨E', b1, b2, b3, b4, b5⟩ := hp
        subst b3
        exact Code.wp_mono (fun _ _ _ hq => Post.mono b1 b2 hq) ((evC_ok hcf hm fuel false y b5 hh).1 rfl)
      · rename_i hnot
        refine wp_seq (Code.wp_mono (fun e' a' w' hp => ?_) ((evC_ok hcf hm fuel false x R hh).1 rfl))
        have he : e' ≠ .normal := by
          obtain ⟨E', _, _, b3, _⟩ := hp
          intro h'
          rw [h'] at b3
          cases e with
          | normal => exact hnot _ hh
          | _ => cases b3
        cases e' <;> first | exact absurd rfl he | exact hp
    | cond x y z =>
      simp only [evC] at hh
      split at hh
      · rename_i hx
        exact wp_cond_true (by rw [R.ev, hx]; rfl) ((evC_ok hcf hm fuel false y R hh).1 rfl)
      · rename_i hx
        exact wp_cond_false (by rw [R.ev, hx]; rfl) ((evC_ok hcf hm fuel false z R hh).1 rfl)
      · cases hh
    | block id b =>
      simp only [evC] at hh
      split at hh
      · rename_i id' st1 h1
        refine wp_block (Code.wp_mono (fun e' a' w' hp => ?_) ((evC_ok hcf hm fuel false b R h1).1 rfl))
        obtain ⟨E', b1, b2, b3, b4, b5⟩ := hp
        subst b3
        simp only [denEx, Exit.inBlock]
        cases hb : Nat.beq id' id with
        | true =>
          simp only [hb, cond_true, Option.some.injEq, Prod.mk.injEq] at hh
          obtain ⟨rfl, rfl⟩ := hh
          rw [if_pos (Nat.eq_of_beq_eq_true hb)]
          exact ⟨E', b1, b2, rfl, rfl, b5⟩
        | false =>
          simp only [hb, cond_false, Option.some.injEq, Prod.mk.injEq] at hh
          obtain ⟨rfl, rfl⟩ := hh
          rw [if_neg (fun h' => by subst h'; simp at hb)]
          exact ⟨E', b1, b2, rfl, rfl, b5⟩
      · rename_i hnot
        refine wp_block (Code.wp_mono (fun e' a' w' hp => ?_) ((evC_ok hcf hm fuel false b R hh).1 rfl))
        have he : ∀ id', e' ≠ .exit id' := by
          obtain ⟨E', _, _, b3, _⟩ := hp
          intro id' h'
          rw [h'] at b3
          cases e with
          | exit id'' => exact hnot _ _ hh
          | _ => cases b3
        cases e' <;> first | exact absurd rfl (he _) | exact hp
    | loop b =>
      simp only [evC] at hh
      exact loop_of_in ((evC_ok hcf hm fuel true b R hh).2 rfl)
    | exit id =>
      simp only [evC, Option.some.injEq, Prod.mk.injEq] at hh
      exact wp_exit (here (e' := .exit id) hh.1.symm hh.2 rfl)
    | ret =>
      simp only [evC, Option.some.injEq, Prod.mk.injEq] at hh
      exact wp_ret (here (e' := .ret) hh.1.symm hh.2 rfl)
    | rangeFunc _ _ _ _ => simp [evC] at hh
    | scope _ => simp [evC] at hh
    | goto _ => simp [evC] at hh
    | refuse _ => simp [evC] at hh

/-! ### results -/
def evRes (P : Program) (st : St) : List ResultVar → Option (List AV)
  | [] => some []
  | .tmp t :: r =>
    match evRes P st r with
    | some l => some (st.ev (.tmp t) :: l)
    | none => none
  | .cell a t :: r =>
    match st.ev (.tmp a) with
    | .ptr n off =>
      match evLoadAt P st.heap t n off, evRes P st r with
      | some v, some l => some (v :: l)
      | _, _ => none
    | _ => none
def resOf : List AV → AV
  | [v] => v
  | l => .tup l
def evResults (P : Program) (fn : Func) (st : St) : Option AV :=
  match evRes P st fn.results.toList with
  | some l => bif bdL st.next l then some (resOf l) else none
  | none => none
def resS (tmps : Array Value) : ResultVar → Sem Value
  | .tmp t => pure (tmps.getD t undef)
  | .cell a t => do loadVar t (← asAddr (tmps.getD a undef))
theorem results_resS (fn : Func) (tmps : Array Value) : results fn tmps = (do
    let vs ← fn.results.mapM (resS tmps)
    pure (if h : vs.size = 1 then vs[0] else .tuple vs)) := by
  unfold results
  congr 1
theorem evResults_ok {fn : Func} {st : St} {a : Act} (R : RS B w0 E st a w) {v : AV} (hh : evResults P fn st = some v) :
    (results fn a.tmps).run P w = .ok (den E v) w ∧ bd st.next v = true := by
  unfold evResults at hh
  split at hh
  · rename_i l hl
    cases hb : bdL st.next l with
    | false => simp [hb] at hh
    | true =>
      simp only [hb, cond_true, Option.some.injEq] at hh
      subst hh
      have hev : ∀ t, a.tmps.getD t undef = den E (st.ev (.tmp t)) := fun t => R.ev (.tmp t)
      have key : ∀ (rs : List ResultVar) (l : List AV), evRes P st rs = some l → (rs.mapM (resS a.tmps)).run P w = .ok (denL E l) w := by
        intro rs
        induction rs with
        | nil =>
          intro l hl
          simp only [evRes, Option.some.injEq] at hl
          subst hl
          rfl
        | cons x r ih =>
          intro l hl
          cases x with
          | tmp t =>
            simp only [evRes] at hl
            split at hl
            · rename_i l' hl'
              injection hl with hl; subst hl
              have hx : (resS a.tmps (.tmp t)).run P w = .ok (den E (st.ev (.tmp t))) w := by rw [← hev]; rfl
              rw [List.mapM_cons, Sem.run_bind, hx]
              simp only [Result.andThen_ok]
              rw [Sem.run_bind, ih l' hl']
              rfl
            · cases hl
          | cell b t =>
            simp only [evRes] at hl
            split at hl
            · rename_i n off hp
              split at hl
              · rename_i v l' hv hl'
                injection hl with hl; subst hl
                have h1 := (evLoadAt_ok R.hi hv).1
                have hx : (resS a.tmps (.cell b t)).run P w = .ok (den E v) w := by
                  simp only [resS]
                  rw [hev, hp]
                  simp only [den, asAddr, Sem.run_bind, Sem.run_pure, Result.andThen_ok, h1]
                rw [List.mapM_cons, Sem.run_bind, hx]
                simp only [Result.andThen_ok]
                rw [Sem.run_bind, ih l' hl']
                rfl
              · cases hl
            · cases hl
      have h1 := key _ _ hl
      have h2 : (results fn a.tmps).run P w = .ok (if h : (denL E l).toArray.size = 1 then (denL E l).toArray[0] else .tuple (denL E l).toArray) w := by
        rw [results_resS, Array.mapM_eq_mapM_toList, Sem.run_bind, Sem.run_map, h1]
        rfl
      rw [h2]
      rcases l with _ | ⟨x, _ | ⟨y, r⟩⟩
      · exact ⟨rfl, rfl⟩
      · simp only [bdL, Bool.and_true] at hb
        exact ⟨rfl, hb⟩
      · refine ⟨?_, hb⟩
        have : ¬ (denL E (x :: y :: r)).toArray.size = 1 := by simp [denL_length]
        rw [dif_neg this]
        rfl
  · cases hh
end EngCode
end Go.Proofs.YtlpgfdhihimjaaaGreat.Eng
namespace Go.Proofs.YtlpgfdhihimjaaaGreat.Eng
section EngFun
open Go Go.RowKit
variable {B : Nat} {w0 : World} {E : Env} {w : World} {P : Program}

/-! ### deferred calls -/
inductive AMd where
  | returning
  | panicking (ch : List (AV × Bool))
def denMd (E : Env) : AMd → FrameMode
  | .returning => .returning
  | .panicking ch => .panicking (denCh E ch)
def bdMd (N : Nat) : AMd → Bool
  | .returning => true
  | .panicking ch => bdCh N ch
theorem denMd_ext {N : Nat} {E E' : Env} (hx : Ext N E E') {m : AMd} (hb : bdMd N m = true) : denMd E' m = denMd E m := by
  cases m with
  | returning => rfl
  | panicking ch => simp only [denMd, denCh_ext hx hb]
theorem bdMd_mono {N M : Nat} (hn : N ≤ M) {m : AMd} (hb : bdMd N m = true) : bdMd M m = true := by
  cases m with
  | returning => rfl
  | panicking ch => exact bdCh_mono hn hb
def settleA : AMd → AMd
  | .panicking ((_, true) :: _) => .returning
  | m => m
theorem denCh_noexit (E : Env) (ch : List (AV × Bool)) : (denCh E ch).dropWhile (fun x => !x.goexit) = [] := by
  induction ch with
  | nil => rfl
  | cons p r ih => simp only [denCh, List.map_cons] at *; rw [List.dropWhile_cons]; simp only [Bool.not_false, if_true]; exact ih
theorem settleA_ok (E : Env) (m : AMd) : settle (denMd E m) = denMd E (settleA m) := by
  cases m with
  | returning => rfl
  | panicking ch =>
    rcases ch with _ | ⟨⟨v, b⟩, r⟩
    · rfl
    · cases b with
      | false => rfl
      | true =>
        simp only [denMd, settleA]
        show (match (denCh E r).dropWhile (fun x => !x.goexit) with | [] => FrameMode.returning | rest => .panicking rest) = .returning
        rw [denCh_noexit]
theorem settleA_bd {N : Nat} {m : AMd} (hb : bdMd N m = true) : bdMd N (settleA m) = true := by
  cases m with
  | returning => rfl
  | panicking ch =>
    rcases ch with _ | ⟨⟨v, b⟩, r⟩
    · exact hb
    · cases b with
      | false => exact hb
      | true => rfl

def isRecover (o : Oper) : Bool :=
  match o.op with
  | .call c => match c.callee with
    | .builtin .recover => true
    | _ => false
  | _ => false
theorem isRecover_ok {o : Oper} (hh : isRecover o = true) (ρ : Operand → Value) (w : World) : (execOp ρ o).run P w = .ok .recover w := by
  obtain ⟨dst, op, ty, pos, after, guard⟩ := o
  unfold isRecover at hh
  simp only at hh
  split at hh
  · rename_i c
    obtain ⟨callee, args, argTypes⟩ := c
    simp only at hh
    split at hh
    · rfl
    · cases hh
  · cases hh
theorem evStep_norec {cf : CF} {st : St} {a : Act} (R : RS B w0 E st a w) {o : Oper} {x : Ex × St} (hh : evStep P cf st o = some x) (w' : World) : (execOp a.eval o).run P w ≠ .ok .recover w' := by
  unfold evStep at hh
  intro hr
  cases hop : evOp P st.heap st.next st.ev o with
  | none => simp [hop] at hh
  | some r =>
    have h1 := evOp_ok R.hi R.ev hop
    cases r with
    | val v h nx => obtain ⟨_, _, _, _, _, _, h5⟩ := h1; rw [h5] at hr; cases hr
    | skip h => obtain ⟨_, _, h5⟩ := h1; rw [h5] at hr; cases hr
    | enter f args => obtain ⟨_, h5⟩ := h1; rw [h5] at hr; cases hr
    | dfr d => obtain ⟨_, h5⟩ := h1; rw [h5] at hr; cases hr
    | pan v h nx => obtain ⟨_, _, _, _, _, _, h5⟩ := h1; rw [h5] at hr; cases hr
def recA : AMd → Option (AV × AMd)
  | .panicking ((v, false) :: r) => some (v, .panicking ((v, true) :: r))
  | _ => none
theorem recA_ok (E : Env) (m : AMd) (c₀ : Frame) (cs : List Frame) : recoverD ({ c₀ with mode := denMd E m } :: cs) =
    (recA m).map fun p => (den E p.1, { c₀ with mode := denMd E p.2 } :: cs) := by
  cases m with
  | returning => rfl
  | panicking ch =>
    rcases ch with _ | ⟨⟨v, b⟩, r⟩
    · rfl
    · cases b <;> rfl
def evOpsS (P : Program) (cf : CF) (ops : Array Oper) : List Nat → St → AMd → Option (Ex × St × AMd)
  | [], st, m => some (.normal, st, m)
  | i :: rest, st, m =>
    match ops[i]? with
    | none => none
    | some o =>
      match wantedA ops st o with
      | some true =>
        bif isRecover o then
          match recA m with
          | some (v, m') => bif bd st.next v && bdMd st.next m' then evOpsS P cf ops rest (st.put o.dst v) m' else none
          | none => evOpsS P cf ops rest (st.put o.dst (.raw .nilIface)) m
        else
          match evStep P cf st o with
          | some (.normal, st') => evOpsS P cf ops rest st' m
          | _ => none
      | some false => evOpsS P cf ops rest (st.put o.dst (.raw undef)) m
      | none => none
def PostS (B : Nat) (w0 : World) (E : Env) (nx : Nat) (c₀ : Frame) (cs : List Frame) (e : Ex) (st' : St) (m' : AMd) : Exit → Act → List Frame → World → Prop := fun e' a' cs' w' =>
  ∃ E', Ext nx E E' ∧ nx ≤ st'.next ∧ e' = denEx E' e ∧ bdEx st'.next e = true ∧ RS B w0 E' st' a' w' ∧ cs' = { c₀ with mode := denMd E' m' } :: cs ∧ bdMd st'.next m' = true
theorem PostS.mono {nx nx' : Nat} {E' : Env} {c₀ : Frame} {cs : List Frame} {e : Ex} {st' : St} {m' : AMd} (hx : Ext nx E E') (hn : nx ≤ nx') {e' : Exit} {a' : Act} {cs' : List Frame} {w' : World}
    (hh : PostS B w0 E' nx' c₀ cs e st' m' e' a' cs' w') : PostS B w0 E nx c₀ cs e st' m' e' a' cs' w' := by
  obtain ⟨E'', b1, b2, b3⟩ := hh
  exact ⟨E'', hx.trans b1 hn, Nat.le_trans hn b2, b3⟩
theorem evOpsS_ok {cf : CF} (hcf : CFok P cf) {ops : Array Oper} (c₀ : Frame) (cs : List Frame) : ∀ (l : List Nat) {E : Env} {st st' : St} {m m' : AMd} {a : Act} {w : World} {e : Ex}, RS B w0 E st a w →
    bdMd st.next m = true → evOpsS P cf ops l st m = some (e, st', m') → ∀ {Q : Exit → Act → List Frame → World → Prop}, (∀ e' a' cs' w', PostS B w0 E st.next c₀ cs e st' m' e' a' cs' w' → Q e' a' cs' w') →
    wpOpsS P ops Q l a ({ c₀ with mode := denMd E m } :: cs) w
  | [], E, st, st', m, m', a, w, e, R, hb, hh, Q, hQ => by
    simp only [evOpsS, Option.some.injEq, Prod.mk.injEq] at hh
    obtain ⟨rfl, rfl, rfl⟩ := hh
    exact hQ _ _ _ _ ⟨E, Ext.refl _ _, Nat.le_refl _, rfl, rfl, R, rfl, hb⟩
  | i :: rest, E, st, st', m, m', a, w, e, R, hb, hh, Q, hQ => by
    simp only [evOpsS] at hh
    simp only [wpOpsS]
    cases ho : ops[i]? with
    | none => simp [ho] at hh
    | some o =>
      simp only [ho] at hh ⊢
      split at hh
      · rename_i hw
        rw [if_pos (wantedA_ok R hw)]
        cases hr : isRecover o with
        | true =>
          simp only [hr, cond_true] at hh
          simp only [isRecover_ok hr a.eval w, recA_ok]
          split at hh
          · rename_i v m1 hm
            cases hc : (bd st.next v && bdMd st.next m1) with
            | false => simp [hc] at hh
            | true =>
              simp only [hc, cond_true] at hh
              simp only [Bool.and_eq_true] at hc
              simp only [hm, Option.map_some]
              exact evOpsS_ok hcf c₀ cs rest (R.step (Ext.refl _ _) (Nat.le_refl _) hc.1 R.hi o.dst) (by rw [put_next]; exact hc.2) hh (by rw [put_next]; exact hQ)
          · rename_i hm
            simp only [hm, Option.map_none]
            exact evOpsS_ok hcf c₀ cs rest (R.step (Ext.refl _ _) (Nat.le_refl _) (v := .raw .nilIface) rfl R.hi o.dst) (by rw [put_next]; exact hb) hh (by rw [put_next]; exact hQ)
        | false =>
          simp only [hr, cond_false] at hh
          split at hh
          · rename_i st1 hs
            have hnr := evStep_norec R hs
            have hwp := evStep_ok hcf R hs (K := fun a' w' => wpOpsS P ops Q rest a' ({ c₀ with mode := denMd E m } :: cs) w') (Q := fun e a' w' => Q e a' ({ c₀ with mode := denMd E m } :: cs) w')
              (fun _ E' a' w' hx hn R' => by
                have := evOpsS_ok hcf c₀ cs rest R' (bdMd_mono hn hb) hh (Q := Q) (fun e' a'' cs' w'' hp => hQ _ _ _ _ (PostS.mono hx hn hp))
                rw [denMd_ext hx hb] at this
                exact this) (fun ch hc => by cases hc)
            unfold Oper.wp at hwp
            generalize (execOp a.eval o).run P w = r at hnr hwp
            split
            · rename_i w' ; exact absurd rfl (hnr w')
            · exact hwp
          · cases hh
      · rename_i hw
        rw [if_neg (by rw [wantedA_ok R hw]; simp)]
        exact evOpsS_ok hcf c₀ cs rest (R.skip o.dst) (by rw [put_next]; exact hb) hh (by rw [put_next]; exact hQ)
      · cases hh
def evCS (P : Program) (cf : CF) (N : Nat) : Nat → Code → St → AMd → Option (Ex × St × AMd)
  | 0, _, _, _ => none
  | fuel + 1, c, st, m =>
    match c with
    | .seq a b =>
      match evCS P cf N fuel a st m with
      | some (.normal, st', m') => evCS P cf N fuel b st' m'
      | r => r
    | .region _ ops false => evOpsS P cf ops (List.range ops.size) st m
    | .cond x a b =>
      match st.ev x with
      | .raw (.bool true) => evCS P cf N fuel a st m
      | .raw (.bool false) => evCS P cf N fuel b st m
      | _ => none
    | c =>
      match evC P cf N false c st with
      | some (e, st') => some (e, st', m)
      | none => none
theorem evCS_ok {cf : CF} (hcf : CFok P cf) (hm : P.follows .mixedOrders = true) (N : Nat) (c₀ : Frame) (cs : List Frame) : ∀ (fuel : Nat) (c : Code) {E : Env} {st st' : St} {m m' : AMd} {a : Act} {w : World} {e : Ex},
    RS B w0 E st a w → bdMd st.next m = true → evCS P cf N fuel c st m = some (e, st', m') → c.wpS P (PostS B w0 E st.next c₀ cs e st' m') a ({ c₀ with mode := denMd E m } :: cs) w
  | 0, _, E, st, st', m, m', a, w, e, R, hb, hh => by simp [evCS] at hh
  | fuel + 1, c, E, st, st', m, m', a, w, e, R, hb, hh => by
    have plain : ∀ {c : Code}, (match evC P cf N false c st with | some (e, st') => some (e, st', m) | none => none) = some (e, st', m') →
        c.wpS P (PostS B w0 E st.next c₀ cs e st' m') a ({ c₀ with mode := denMd E m } :: cs) w := by
      intro c hh
      split at hh
      · rename_i e1 st1 h1
        simp only [Option.some.injEq, Prod.mk.injEq] at hh
        obtain ⟨rfl, rfl, rfl⟩ := hh
        refine wpS_of_wp (Code.wp_mono (fun e' a' w' hp => ?_) ((evC_ok hcf hm N false c R h1).1 rfl))
        obtain ⟨E', b1, b2, b3, b4, b5⟩ := hp
        exact ⟨E', b1, b2, b3, b4, b5, by rw [denMd_ext b1 hb], bdMd_mono b2 hb⟩
      · cases hh
    cases c with
    | seq x y =>
      simp only [evCS] at hh
      split at hh
      · rename_i st1 m1 h1
        refine wpS_seq ?_
        have h2 := evCS_ok hcf hm N c₀ cs fuel x R hb h1
        intro b k hk hr
        obtain ⟨e', a', cs', w', hp, harr⟩ := h2 b k hk hr
        obtain ⟨E', b1, b2, b3, b4, b5, b6, b7⟩ := hp
        subst b3; subst b6
        refine ⟨_, _, _, _, ?_, harr⟩
        have h3 := evCS_ok hcf hm N c₀ cs fuel y b5 b7 hh
        intro b' k' hk' hr'
        obtain ⟨e'', a'', cs'', w'', hp', harr'⟩ := h3 b' k' hk' hr'
        exact ⟨e'', a'', cs'', w'', PostS.mono b1 b2 hp', harr'⟩
      · rename_i hnot
        refine wpS_seq ?_
        have h2 := evCS_ok hcf hm N c₀ cs fuel x R hb hh
        intro b k hk hr
        obtain ⟨e', a', cs', w', hp, harr⟩ := h2 b k hk hr
        have he : e' ≠ .normal := by
          obtain ⟨E', _, _, b3, _⟩ := hp
          intro h'
          rw [h'] at b3
          cases e with
          | normal => exact hnot _ _ hh
          | _ => cases b3
        refine ⟨e', a', cs', w', ?_, harr⟩
        cases e' <;> first | exact absurd rfl he | exact hp
    | region id ops d =>
      cases d with
      | false =>
        simp only [evCS] at hh
        exact wpS_region (evOpsS_ok hcf c₀ cs _ R hb hh fun _ _ _ _ hp => hp)
      | true => simp only [evCS] at hh; exact plain hh
    | cond x y z =>
      simp only [evCS] at hh
      split at hh
      · rename_i hx
        refine wpS_cond (t := true) (by rw [R.ev, hx]; rfl) ?_
        exact evCS_ok hcf hm N c₀ cs fuel y R hb hh
      · rename_i hx
        refine wpS_cond (t := false) (by rw [R.ev, hx]; rfl) ?_
        exact evCS_ok hcf hm N c₀ cs fuel z R hb hh
      · cases hh
    | _ => simp only [evCS] at hh; exact plain hh
/-- A deferred function that comes back: the mode of the frame below, the heap. -/
def evD (P : Program) (cf : CF) (N : Nat) (f : FuncId) (args : List AV) (m : AMd) (h : Heap) (nx : Nat) : Option (AMd × Heap × Nat) :=
  match P.funcs[f]? with
  | some fn =>
    match fn.body with
    | some c =>
      match evCS P cf N N c ⟨args ++ List.replicate (fn.ntmps - args.length) (.raw undef), [], h, nx⟩ m with
      | some (e, st, m') =>
        match e, st.defers, evResults P fn st with
        | .normal, [], some _ => some (m', st.heap, st.next)
        | .ret, [], some _ => some (m', st.heap, st.next)
        | _, _, _ => none
      | none => none
    | none => none
  | none => none
theorem enter_tmps (E : Env) (args : List AV) (n : Nat) : (denL E args).toArray ++ Array.replicate (n - (denL E args).toArray.size) undef = (denL E (args ++ List.replicate (n - args.length) (.raw undef))).toArray := by
  have h1 : ∀ k, denL E (List.replicate k (.raw undef)) = List.replicate k undef := by
    intro k
    induction k with
    | zero => rfl
    | succ k ih => simp [List.replicate_succ, denL, den, ih]
  apply Array.ext'
  simp [denL_append, h1, denL_length]
theorem enter_bd {N : Nat} {args : List AV} (hb : bdL N args = true) (k : Nat) : bdL N (args ++ List.replicate k (.raw undef)) = true := by
  refine bdL_append hb ?_
  induction k with
  | zero => rfl
  | succ k ih => simp [List.replicate_succ, bdL, bd, ih]
theorem evD_ok {cf : CF} (hcf : CFok P cf) (hm : P.follows .mixedOrders = true) {N : Nat} {f : FuncId} {args : List AV} {m m' : AMd} {h h' : Heap} {nx nx' : Nat} (hh : evD P cf N f args m h nx = some (m', h', nx'))
    (H : HI B w0 E h nx w) (hba : bdL nx args = true) (hbm : bdMd nx m = true) :
    CallsD P f (denL E args).toArray (denMd E m) w fun e u' w' => ∃ v, e = .returned v ∧ ∃ E', Ext nx E E' ∧ nx ≤ nx' ∧ u' = denMd E' m' ∧ bdMd nx' m' = true ∧ HI B w0 E' h' nx' w' := by
  unfold evD at hh
  split at hh
  · rename_i fn hf
    split at hh
    · rename_i c hc
      split at hh
      · rename_i e st m1 hcs
        refine callsD_of_wpS hf hc fun c₀ cs hu => ?_
        rw [enter_tmps]
        have R : RS B w0 E ⟨args ++ List.replicate (fn.ntmps - args.length) (.raw undef), [], h, nx⟩ { tmps := (denL E (args ++ List.replicate (fn.ntmps - args.length) (.raw undef))).toArray, defers := [] } w :=
          ⟨rfl, rfl, enter_bd hba _, rfl, H⟩
        have hcs2 : c₀ = { c₀ with mode := denMd E m } := by rw [← hu]
        have h2 := evCS_ok hcf hm N c₀ cs N c R hbm hcs
        have fin : ∀ (e : Ex), (e = .normal ∨ e = .ret) → st.defers = [] → (∃ v, evResults P fn st = some v) → m1 = m' → st.heap = h' → st.next = nx' →
            ∀ e' a' cs' w', PostS B w0 E nx c₀ cs e st m1 e' a' cs' w' →
              bodyPostS P fn c₀ cs (fun e u' w' => ∃ v, e = .returned v ∧ ∃ E', Ext nx E E' ∧ nx ≤ nx' ∧ u' = denMd E' m' ∧ bdMd nx' m' = true ∧ HI B w0 E' h' nx' w') e' a' cs' w' := by
          intro e he hd hv e1 e2 e3 e' a' cs' w' hp
          obtain ⟨E', b1, b2, b3, b4, b5, b6, b7⟩ := hp
          subst e1 e2 e3
          obtain ⟨v, hv⟩ := hv
          have hr := (evResults_ok b5 hv).1
          have hd' : a'.defers = [] := by rw [b5.defs, hd]; rfl
          rcases he with rfl | rfl <;> subst b3 <;> exact ⟨hd', _, b6, _, hr, _, rfl, E', b1, b2, rfl, b7, b5.hi⟩
        split at hh
        · rename_i h3 h4
          simp only [Option.some.injEq, Prod.mk.injEq] at hh
          intro b k hk hr
          rw [hcs2]
          obtain ⟨e', a', cs', w', hp, harr⟩ := h2 b k hk hr
          exact ⟨e', a', cs', w', fin _ (.inl rfl) h3 ⟨_, h4⟩ hh.1 hh.2.1 hh.2.2 _ _ _ _ hp, harr⟩
        · rename_i h3 h4
          simp only [Option.some.injEq, Prod.mk.injEq] at hh
          intro b k hk hr
          rw [hcs2]
          obtain ⟨e', a', cs', w', hp, harr⟩ := h2 b k hk hr
          exact ⟨e', a', cs', w', fin _ (.inr rfl) h3 ⟨_, h4⟩ hh.1 hh.2.1 hh.2.2 _ _ _ _ hp, harr⟩
        · cases hh
      · cases hh
    · cases hh
  · cases hh
abbrev DF := FuncId → List AV → AMd → Heap → Nat → Option (AMd × Heap × Nat)
def evLv (P : Program) (df : DF) (fn : Func) : List ADef → AMd → St → Option FR
  | [], .returning, st =>
    match evResults P fn st with
    | some v => some (.ret v st.heap st.next)
    | none => none
  | [], .panicking ch, st => bif bdCh st.next ch then some (.pan ch st.heap st.next) else none
  | d :: ds, m, st =>
    match d.f with
    | .func g =>
      match callA P st.next g (d.args ++ d.cap) with
      | some (.enter g' args) =>
        bif bdMd st.next m then
          match df g' args m st.heap st.next with
          | some (m', h', nx') => evLv P df fn ds (settleA m') (st.to h' nx')
          | none => none
        else none
      | _ => none
    | _ => none
theorem leaves_mono {fn : Func} {tmps : Array Value} {R R' : Ending → World → Prop} (hr : ∀ e w, R e w → R' e w) : ∀ (ds : List Deferred) (u : FrameMode) (w : World),
    Leaves P fn tmps R ds u w → Leaves P fn tmps R' ds u w
  | [], .returning, w, hh => let ⟨v, h1, h2⟩ := hh; ⟨v, h1, hr _ _ h2⟩
  | [], .panicking ch, w, hh => hr _ _ hh
  | [], .run, w, hh => hh.elim
  | d :: ds, u, w, hh => by
    obtain ⟨h1, fv, cap, f, args, h2, h3, h4⟩ := hh
    refine ⟨h1, fv, cap, f, args, h2, h3, h4.mono fun e u' w' hp => ?_⟩
    cases e with
    | returned v => exact leaves_mono hr ds _ _ hp
    | panicked ch => exact leaves_mono hr ds _ _ hp
    | outgrown => exact hr _ _ hp
theorem evLv_ok {cf : CF} (hcf : CFok P cf) (hm : P.follows .mixedOrders = true) {N : Nat} {fn : Func} : ∀ (ds : List ADef) {E : Env} {m : AMd} {st : St} {a : Act} {w : World} {r : FR}, RS B w0 E st a w →
    bdMd st.next m = true → ds.all (bdD st.next) = true → evLv P (evD P cf N) fn ds m st = some r → Leaves P fn a.tmps (FRok B w0 E st.next r) (ds.map (denD E)) (denMd E m) w
  | [], E, m, st, a, w, r, R, hb, hbd, hh => by
    cases m with
    | returning =>
      simp only [evLv] at hh
      split at hh
      · rename_i v hv
        injection hh with hh; subst hh
        obtain ⟨h1, h2⟩ := evResults_ok R hv
        exact ⟨_, h1, E, Ext.refl _ _, Nat.le_refl _, h2, rfl, R.hi⟩
      · cases hh
    | panicking ch =>
      simp only [evLv] at hh
      cases hc : bdCh st.next ch with
      | false => simp [hc] at hh
      | true =>
        simp only [hc, cond_true, Option.some.injEq] at hh
        subst hh
        exact ⟨E, Ext.refl _ _, Nat.le_refl _, hc, rfl, R.hi⟩
  | d :: ds, E, m, st, a, w, r, R, hb, hbd, hh => by
    simp only [evLv] at hh
    split at hh
    · rename_i g hg
      split at hh
      · rename_i g' args hc
        cases hbm : bdMd st.next m with
        | false => simp [hbm] at hh
        | true =>
          simp only [hbm, cond_true] at hh
          split at hh
          · rename_i m' h' nx' hd
            obtain ⟨h1, h2⟩ := callA_ok (B := B) (w0 := w0) (E := E) (w := w) hc
            simp only [List.all_cons, Bool.and_eq_true] at hbd
            simp only [List.map_cons]
            have hden : denD E d = { target := .fn (.func g) (denL E d.cap).toArray, args := (denL E d.args).toArray } := by simp [denD, hg]
            rw [hden]
            refine leaves_cons (by cases m <;> simp [denMd]) (f := g') (args := (denL E args).toArray) ?_ ?_
            · simp only [invoke]
              rw [← h2, denL_append]
              simp
            · have hinv := evD_ok hcf hm hd R.hi h1 hbm
              refine hinv.mono fun e u' w' hp => ?_
              obtain ⟨v, rfl, E', b1, b2, b3, b4, b5⟩ := hp
              simp only
              rw [b3, settleA_ok]
              have R' := R.to_ b1 b2 b5
              have h6 := evLv_ok hcf hm ds R' (settleA_bd b4) (bdDs_mono b2 hbd.2) hh
              have h7 : ds.map (denD E') = ds.map (denD E) := denDs_ext b1 hbd.2
              rw [h7] at h6
              have h8 : ∀ e w, FRok B w0 E' (st.to h' nx').next r e w → FRok B w0 E st.next r e w := by
                intro e w hp
                cases r with
                | ret v h nx => cases e <;> first | exact hp.elim | (obtain ⟨E'', c1, c2, c3⟩ := hp; exact ⟨E'', b1.trans c1 b2, Nat.le_trans b2 c2, c3⟩)
                | pan v h nx => cases e <;> first | exact hp.elim | (obtain ⟨E'', c1, c2, c3⟩ := hp; exact ⟨E'', b1.trans c1 b2, Nat.le_trans b2 c2, c3⟩)
              exact leaves_mono h8 _ _ _ h6
          · cases hh
      · cases hh
    · cases hh

/-! ### functions -/
def evF (P : Program) (N : Nat) : Nat → CF
  | 0 => fun _ _ _ _ => none
  | fuel + 1 => fun f args h nx =>
    match P.funcs[f]? with
    | some fn =>
      match fn.body with
      | some c =>
        match evC P (evF P N fuel) N false c ⟨args ++ List.replicate (fn.ntmps - args.length) (.raw undef), [], h, nx⟩ with
        | some (.normal, st) => evLv P (evD P (evF P N fuel) N) fn st.defers .returning st
        | some (.ret, st) => evLv P (evD P (evF P N fuel) N) fn st.defers .returning st
        | some (.panic ch, st) => bif bdCh st.next ch then evLv P (evD P (evF P N fuel) N) fn st.defers (.panicking ch) st else none
        | _ => none
      | none => none
    | none => none
theorem FRok_mono {nx nx' : Nat} {E' : Env} {r : FR} (hx : Ext nx E E') (hn : nx ≤ nx') {e : Ending} {w : World} (hp : FRok B w0 E' nx' r e w) : FRok B w0 E nx r e w := by
  cases r with
  | ret v h nx => cases e <;> first | exact hp.elim | (obtain ⟨E'', c1, c2, c3⟩ := hp; exact ⟨E'', hx.trans c1 hn, Nat.le_trans hn c2, c3⟩)
  | pan v h nx => cases e <;> first | exact hp.elim | (obtain ⟨E'', c1, c2, c3⟩ := hp; exact ⟨E'', hx.trans c1 hn, Nat.le_trans hn c2, c3⟩)
theorem evF_ok (hm : P.follows .mixedOrders = true) (N : Nat) : ∀ fuel, CFok P (evF P N fuel)
  | 0 => fun f args h nx r hh => by simp [evF] at hh
  | fuel + 1 => fun f args h nx r hh B w0 E w H hb => by
    have hcf := evF_ok hm N fuel
    simp only [evF] at hh
    split at hh
    · rename_i fn hf
      split at hh
      · rename_i c hc
        have R : RS B w0 E ⟨args ++ List.replicate (fn.ntmps - args.length) (.raw undef), [], h, nx⟩ { tmps := (denL E (args ++ List.replicate (fn.ntmps - args.length) (.raw undef))).toArray, defers := [] } w :=
          ⟨rfl, rfl, enter_bd hb _, rfl, H⟩
        refine calls_of_wp_defers hf hc ?_
        rw [enter_tmps]
        split at hh
        · rename_i st h1
          refine Code.wp_mono (fun e' a' w' hp => ?_) ((evC_ok hcf hm N false c R h1).1 rfl)
          obtain ⟨E', b1, b2, b3, b4, b5⟩ := hp
          subst b3
          have h2 := evLv_ok hcf hm st.defers b5 (m := .returning) rfl b5.bds hh
          rw [← b5.defs] at h2
          exact leaves_mono (fun e w hp => FRok_mono b1 b2 hp) _ _ _ h2
        · rename_i st h1
          refine Code.wp_mono (fun e' a' w' hp => ?_) ((evC_ok hcf hm N false c R h1).1 rfl)
          obtain ⟨E', b1, b2, b3, b4, b5⟩ := hp
          subst b3
          have h2 := evLv_ok hcf hm st.defers b5 (m := .returning) rfl b5.bds hh
          rw [← b5.defs] at h2
          exact leaves_mono (fun e w hp => FRok_mono b1 b2 hp) _ _ _ h2
        · rename_i ch st h1
          cases hbc : bdCh st.next ch with
          | false => simp [hbc] at hh
          | true =>
            simp only [hbc, cond_true] at hh
            refine Code.wp_mono (fun e' a' w' hp => ?_) ((evC_ok hcf hm N false c R h1).1 rfl)
            obtain ⟨E', b1, b2, b3, b4, b5⟩ := hp
            subst b3
            have h2 := evLv_ok hcf hm st.defers b5 (m := .panicking ch) hbc b5.bds hh
            rw [← b5.defs] at h2
            exact leaves_mono (fun e w hp => FRok_mono b1 b2 hp) _ _ _ h2
        · cases hh
      · cases hh
    · cases hh
/-- From any world, without arguments: what the engine tells is so. -/
theorem evF_closed (hm : P.follows .mixedOrders = true) {N fuel : Nat} {f : FuncId} {v : Value} {w : World} (hh : ∃ h nx, evF P N fuel f [] [] 0 = some (.ret (.raw v) h nx)) :
    Calls P f #[] w fun e w' => e = .returned v ∧ Below w.heap.size w w' := by
  obtain ⟨h, nx, hh⟩ := hh
  have H : HI w.heap.size w ⟨fun n => n, fun _ => 0⟩ [] 0 w := ⟨Below.refl _ _, Nat.le_refl _, fun n o hl => by simp [look] at hl, fun n m o o' hl => by simp [look] at hl⟩
  refine (evF_ok hm N fuel f [] [] 0 _ hh w.heap.size w _ w H rfl).mono fun e w' hp => ?_
  cases e with
  | returned u =>
    obtain ⟨E', _, _, _, h1, h2⟩ := hp
    subst h1
    exact ⟨rfl, h2.below⟩
  | panicked c => exact hp.elim
  | outgrown => exact hp.elim
def isTrue : Option FR → Bool
  | some (.ret (.raw (.bool true)) _ _) => true
  | _ => false
theorem isTrue_ok {r : Option FR} (hh : isTrue r = true) : ∃ h nx, r = some (.ret (.raw (.bool true)) h nx) := by
  unfold isTrue at hh
  split at hh
  · exact ⟨_, _, rfl⟩
  · cases hh
end EngFun
end Go.Proofs.YtlpgfdhihimjaaaGreat.Eng
