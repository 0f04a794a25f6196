/-
  The frame of the rows: opening of arguments, the listed variables.
  Conditions: none.
-/
import Derived.Test.YtkpnnhebfaggeaaDoorKitB
import Derived.SizedLaws
import Derived.ChangeArms
import Derived.OpenShut
import Derived.Test.YtkpnnhebfaggeaaDoorRows
import Derived.Lib.LaidU8
import Derived.Lib.LaidTab
import Derived.ProofKit
import Derived.LaidMore
import Derived.Stop.Joined
import Derived.ReadAgain
import Derived.Carry
namespace Go.Proofs.YtkpnnhebfaggeaaDoor
section
open Go.RowKit
set_option maxRecDepth 100000
theorem cells24 : Tryd.prog.cellsOf 24 = 4 := by kernel_rfl
theorem cells3' : Tryd.prog.cellsOf 3 = 1 := by kernel_rfl
theorem cells2' : Tryd.prog.cellsOf 2 = 1 := by kernel_rfl
theorem cells9' : Tryd.prog.cellsOf 9 = 1 := by kernel_rfl
theorem cells22' : Tryd.prog.cellsOf 22 = 1 := by kernel_rfl
theorem bytes24 : Tryd.prog.bytesOf 24 = 56 := by kernel_rfl
/-- A plain value's cells. -/
def CsP (w : World) : PT → List Value → Prop
  | .mk k n s l, cs => s.size ≤ 140737488355328 ∧ l.length ≤ 4398046511104 ∧ ∃ la lc, cs = [.int .i64 k, .int .i64 n, .string s, .slice la l.length lc] ∧ (l ≠ [] → ∃ b' o', la = some ⟨b', o', none⟩ ∧ InPs w b' o' l)
theorem choose_list {α : Type} {Q : Nat → α → Prop} : ∀ n : Nat, (∀ i, i < n → ∃ p, Q i p) → ∃ l : List α, l.length = n ∧ ∀ i (h : i < l.length), Q i l[i]
  | 0, _ => ⟨[], rfl, fun i h => by simp at h⟩
  | n + 1, h => by
    obtain ⟨l, hl, hq⟩ := choose_list n (fun i hi => h i (by omega))
    obtain ⟨p, hp⟩ := h n (by omega)
    refine ⟨l ++ [p], by simp [hl], fun i hi => ?_⟩
    by_cases h1 : i < l.length
    · rw [List.getElem_append_left h1]; exact hq i h1
    · have h2 : i = l.length := by simp at hi; omega
      subst h2
      simp only [List.getElem_concat_length]
      rw [hl]; exact hp
theorem inPs_of {w : World} {b : Nat} : ∀ (l : List PT) (o : Nat), (∀ i (h : i < l.length), InP w b (o + 4 * i) l[i]) → InPs w b o l
  | [], _, _ => trivial
  | p :: r, o, h => by
    refine ⟨h 0 (by simp), inPs_of r (o + 4) fun i hi => ?_⟩
    have := h (i + 1) (by simpa using hi)
    simpa [Nat.mul_add, Nat.add_assoc, Nat.add_comm 4] using this
theorem spot_of_cell {w : World} {a : Addr} {v : Value} (h : w.cell? a = some v) : a.spot = none := World.cell?_spot h
theorem cells4_of {w : World} {b o : Nat} {cs : List Value} (h : w.cells? 0 ⟨b, o, none⟩ 4 = some cs) : ∃ c0 c1 c2 c3, cs = [c0, c1, c2, c3] ∧ w.cell? ⟨b, o, none⟩ = some c0 ∧ w.cell? ⟨b, o + 1, none⟩ = some c1 ∧ w.cell? ⟨b, o + 2, none⟩ = some c2 ∧ w.cell? ⟨b, o + 3, none⟩ = some c3 := by
  unfold World.cells? at h
  rw [if_pos (Nat.zero_le _)] at h
  have e : ∀ j, (⟨b, o, none⟩ : Addr).add j = ⟨b, o + j, none⟩ := fun j => Go.WideShapes.add_plain ..
  simp only [e, show List.range 4 = [0, 1, 2, 3] from by decide, List.mapM_cons, List.mapM_nil, Option.bind_eq_bind, Option.bind_eq_some_iff, Option.pure_def, Option.some.injEq] at h
  obtain ⟨c0, h0, _, ⟨c1, h1, _, ⟨c2, h2, _, ⟨c3, h3, _, rfl, rfl⟩, rfl⟩, rfl⟩, rfl⟩ := h
  exact ⟨c0, c1, c2, c3, rfl, h0, h1, h2, h3⟩
theorem inP_of {w : World} {b o : Nat} {p : PT} {cs : List Value} (h : w.cells? 0 ⟨b, o, none⟩ 4 = some cs) (hp : CsP w p cs) : InP w b o p := by
  obtain ⟨c0, c1, c2, c3, rfl, h0, h1, h2, h3⟩ := cells4_of h
  cases p with
  | mk k n s l =>
    obtain ⟨e1, e2, la, lc, e3, e4⟩ := hp
    simp only [List.cons.injEq, and_true] at e3
    obtain ⟨rfl, rfl, rfl, rfl⟩ := e3
    exact ⟨e1, e2, la, lc, ⟨h0, h1, h2, h3⟩, e4⟩
theorem okPs_of : ∀ l : List PT, (∀ i (h : i < l.length), okP l[i]) → okPs l
  | [], _ => trivial
  | p :: r, h => ⟨h 0 (by simp), okPs_of r fun i hi => h (i + 1) (by simpa using hi)⟩
theorem weights_mem_all {H : Type} {e : TypeId} {n : Nat} : ∀ {ds : List (DataW H)} {d : DataW H}, d ∈ ds → n ∈ d.weights Tryd.prog e → n ∈ DataW.weightsAll Tryd.prog e ds
  | d0 :: r, d, hd, hn => by
    simp only [DataW.weightsAll, List.mem_append]
    rcases List.mem_cons.1 hd with rfl | hd
    · exact .inl hn
    · exact .inr (weights_mem_all hd hn)
  | [], _, hd, _ => by simp at hd
section
variable {H : Type} {enc : TypeId × Value → H} {W : World} {spare : Nat → Bool} {held : Bool}
theorem open_pt : ∀ (m : Nat) {fuel : Nat} {cs : List Value} {x : DataW H × List MemPlace}, fuel ≤ m → DataW.trod enc Tryd.prog W 0 spare held fuel 24 cs = some x → (∀ n ∈ x.1.weights Tryd.prog 24, n ≤ reachBytes) → ∃ p : PT, CsP W p cs ∧ okP p
  | 0, fuel, cs, x, hf, h, _ => by
    obtain rfl : fuel = 0 := by omega
    simp [DataW.trod] at h
  | m + 1, fuel, cs, x, hf, h, hw => by
    obtain ⟨xs, n, rfl, rfl, hcl, hxl, hel⟩ := DataW.trod_struct Tryd.underlying24 h
    rw [cells24] at hcl
    match cs, hcl with
    | [c0, c1, c2, c3], _ =>
    match xs, hxl with
    | [x0, x1, x2, x3], _ =>
    have h0 : DataW.trod enc Tryd.prog W 0 spare held n 3 (([c0, c1, c2, c3].drop 0).take (Tryd.prog.cellsOf 3)) = some x0 := hel 0 _ rfl
    have h1 : DataW.trod enc Tryd.prog W 0 spare held n 2 (([c0, c1, c2, c3].drop 1).take (Tryd.prog.cellsOf 2)) = some x1 := hel 1 _ rfl
    have h2 : DataW.trod enc Tryd.prog W 0 spare held n 9 (([c0, c1, c2, c3].drop 2).take (Tryd.prog.cellsOf 9)) = some x2 := hel 2 _ rfl
    have h3 : DataW.trod enc Tryd.prog W 0 spare held n 22 (([c0, c1, c2, c3].drop 3).take (Tryd.prog.cellsOf 22)) = some x3 := hel 3 _ rfl
    rw [cells3'] at h0
    rw [cells2'] at h1
    rw [cells9'] at h2
    rw [cells22'] at h3
    simp only [List.drop_zero, List.drop_succ_cons, List.take_succ_cons, List.take_zero] at h0 h1 h2 h3
    obtain ⟨k, e0, rfl, w0⟩ := DataW.trod_int Tryd.underlying3 h0
    obtain ⟨nn, e1, rfl, w1⟩ := DataW.trod_int Tryd.underlying2 h1
    obtain ⟨s, e2, rfl, w2⟩ := DataW.trod_string Tryd.underlying9 h2
    simp only [List.cons.injEq, and_true] at e0 e1 e2
    subst e0 e1 e2
    have hb := bounds_i64 w1
    have hw' : ∀ z ∈ DataW.weightsEach Tryd.prog [3, 2, 9, 22] [DataW.lit (.int .i64 k), .lit (.int .i64 nn), .lit (.string s.data.toList), x3.1], z ≤ reachBytes := by
      intro z hz
      refine hw z ?_
      have : ((DataW.agg ([((DataW.lit (.int .i64 k) : DataW H), ([] : List MemPlace)), (.lit (.int .i64 nn), []), (.lit (.string s.data.toList), []), x3].map (·.1))).weights Tryd.prog 24) = DataW.weightsEach Tryd.prog [3, 2, 9, 22] [DataW.lit (.int .i64 k), .lit (.int .i64 nn), .lit (.string s.data.toList), x3.1] := by
        simp [DataW.weights, Tryd.underlying24]
      rw [this]; exact hz
    have hs : s.size ≤ 140737488355328 := by
      have := hw' s.data.toList.length (by simp [DataW.weightsEach, DataW.weights])
      simp [reachBytes] at this
      have e : s.size = s.data.size := rfl
      omega
    rcases DataW.trod_slice Tryd.underlying22 h3 with ⟨e3, rfl⟩ | ⟨a, len, cap, elems, rest, n1, rfl, e3, rfl, hb1, hlc, hcm, hel2, hels, _, _⟩
    · simp only [List.cons.injEq, and_true] at e3
      subst e3
      exact ⟨.mk k nn s [], ⟨hs, by simp, none, 0, rfl, by simp⟩, hb, trivial⟩
    · simp only [List.cons.injEq, and_true] at e3
      subst e3
      have hwl : ∀ z ∈ (len + rest.length) * 56 :: DataW.weightsAll Tryd.prog 24 (elems.map (·.1)), z ≤ reachBytes := by
        intro z hz
        refine hw' z ?_
        simp only [DataW.weightsEach, DataW.weights, Tryd.underlying22, bytes24, List.length_map, List.append_nil, List.nil_append, List.mem_append, List.mem_cons, hel2] at hz ⊢
        rcases hz with hz | hz
        · exact .inr (.inl hz)
        · exact .inr (.inr (.inl hz))
      have hln : len ≤ 4398046511104 := by
        have := hwl ((len + rest.length) * 56) (by simp)
        simp only [reachBytes] at this
        omega
      have hea : ∀ i, i < len → ∃ p : PT, (W.cells? 0 (a.add (i * 4)) 4 ≠ none ∧ ∀ cs, W.cells? 0 (a.add (i * 4)) 4 = some cs → CsP W p cs) ∧ okP p := by
        intro i hi
        have h4 := hels i hi
        rw [cells24] at h4
        have hi' : i < elems.length := by omega
        rw [List.getElem?_eq_getElem hi'] at h4
        cases hc : W.cells? 0 (a.add (i * 4)) 4 with
        | none => rw [hc] at h4; simp at h4
        | some cs =>
          rw [hc] at h4
          simp only [Option.bind_some] at h4
          obtain ⟨p, hp1, hp2⟩ := open_pt m (by omega) h4 (fun z hz => hwl z (List.mem_cons_of_mem _ (weights_mem_all (List.mem_map_of_mem (List.getElem_mem hi')) hz)))
          exact ⟨p, ⟨by simp, fun cs' h => by obtain rfl := Option.some.inj h; exact hp1⟩, hp2⟩
      obtain ⟨l, hl, hq⟩ := choose_list len hea
      refine ⟨.mk k nn s l, ⟨hs, by omega, some a, cap, by rw [hl], fun hne => ?_⟩, hb, okPs_of l fun i hi => (hq i hi).2⟩
      have hpos : 0 < l.length := List.length_pos_iff.2 hne
      obtain ⟨⟨hsome, _⟩, _⟩ := hq 0 hpos
      have hsp : a.spot = none := by
        cases hc : W.cells? 0 (a.add (0 * 4)) 4 with
        | none => exact absurd hc hsome
        | some cs =>
          unfold World.cells? at hc
          rw [if_pos (Nat.zero_le _)] at hc
          simp only [show List.range 4 = [0, 1, 2, 3] from by decide, List.mapM_cons, Option.bind_eq_bind, Option.bind_eq_some_iff] at hc
          obtain ⟨c0, h0, _⟩ := hc
          have : (a.add (0 * 4)).add 0 = a := by simp [Addr.add]
          rw [this] at h0
          exact World.cell?_spot h0
      obtain ⟨b', o', sp⟩ := a
      obtain rfl : sp = none := hsp
      refine ⟨b', o', rfl, inPs_of l o' fun i hi => ?_⟩
      obtain ⟨⟨hsome, hcs⟩, _⟩ := hq i hi
      have ea : (⟨b', o', none⟩ : Addr).add (i * 4) = ⟨b', o' + 4 * i, none⟩ := by rw [Go.WideShapes.add_plain, Nat.mul_comm]
      rw [ea] at hsome hcs
      cases hc : W.cells? 0 ⟨b', o' + 4 * i, none⟩ 4 with
      | none => exact absurd hc hsome
      | some cs => exact inP_of hc (hcs cs hc)
end
end

section
open Go.ChangeShapes Go.WideShapes Go.ChangeAt Go.RowKit
set_option maxRecDepth 100000
theorem own : ownKnob Tryd.prog.godebug = none := by kernel_rfl
abbrev laid5 {H : Type} : List (String × DataW H) := [("math/bits.deBruijn32tab", Rows.laid_math_bits_deBruijn32tab), ("math/bits.deBruijn64tab", Rows.laid_math_bits_deBruijn64tab), ("internal/strconv.uint64pow10", Rows.laid_internal_strconv_uint64pow10), ("strconv.ErrRange", Rows.laid_strconv_ErrRange), ("strconv.ErrSyntax", Rows.laid_strconv_ErrSyntax)]
theorem door_met (os : Os) (args : Array Value) : laidMetH Tryd.prog laid5 ((World.doorLaid Tryd.prog 400 os).forCall (fun _ _ => 0) ⟨#[], args, []⟩).memory :=
  laidMetH_of_parts3 (fuel := 8) (laidMet_of_run' 8 (by kernel_rfl) (by kernel_rfl)) (by kernel_rfl) (by kernel_rfl)
theorem tPow : (Tryd.prog.globals[0]?).map (·.type) = some 125 := by kernel_rfl
theorem tSyn : (Tryd.prog.globals[1]?).map (·.type) = some 92 := by kernel_rfl
theorem tRan : (Tryd.prog.globals[2]?).map (·.type) = some 92 := by kernel_rfl
theorem g_bits64 : Tryd.prog.globalNamed "math/bits.deBruijn64tab" = some 4 := by kernel_rfl
theorem iface_of_trod {w : World} {fuel : Nat} {t : TypeId} {ms : Array (String × TypeId)} {cs : List Value} {nm : String} {d : DataW Unit} {p : List MemPlace} (ht : Tryd.prog.underlying t = some (.interface ms))
    (h : DataW.trod (fun _ => ()) Tryd.prog w 0 (fun _ => true) false fuel t cs = some (.iface nm d, p)) : ∃ u v, cs = [.iface u v] := by
  cases fuel with
  | zero => simp [DataW.trod] at h
  | succ n =>
    unfold DataW.trod at h
    rw [ht] at h
    split at h <;> simp_all
theorem tabs_of_laid {W : World} (h : laidMetH Tryd.prog laid5 W) : Tabs W ∧ 5 ≤ W.heap.size := by
  rw [MakeChecks.laidMetH_plain _ _ _ (by kernel_rfl)] at h
  obtain ⟨g0, t0, cs0, f0, p0, e0, e0', v0, r0⟩ := Lib.laidMet.reads h (n := "internal/strconv.uint64pow10") (.tail _ (.tail _ (.head _)))
  obtain ⟨g1, t1, cs1, f1, p1, e1, e1', v1, r1⟩ := Lib.laidMet.reads h (n := "strconv.ErrSyntax") (.tail _ (.tail _ (.tail _ (.tail _ (.head _)))))
  obtain ⟨g2, t2, cs2, f2, p2, e2, e2', v2, r2⟩ := Lib.laidMet.reads h (n := "strconv.ErrRange") (.tail _ (.tail _ (.tail _ (.head _))))
  obtain ⟨g4, t4, cs4, f4, p4, e4, e4', v4, r4⟩ := Lib.laidMet.reads h (n := "math/bits.deBruijn64tab") (.tail _ (.head _))
  obtain rfl := Option.some.inj (g_pow.symm.trans e0)
  obtain rfl := Option.some.inj (g_syn.symm.trans e1)
  obtain rfl := Option.some.inj (g_ran.symm.trans e2)
  obtain rfl := Option.some.inj (g_bits64.symm.trans e4)
  obtain rfl := Option.some.inj (tPow.symm.trans e0')
  obtain rfl := Option.some.inj (tSyn.symm.trans e1')
  obtain rfl := Option.some.inj (tRan.symm.trans e2')
  refine ⟨⟨?_, ?_, ?_⟩, ?_⟩
  · have := Lib.cells_of_tab (P := Tryd.prog) (zs := Lib.pow10Tab) (k := .u64) Tryd.underlying125 Tryd.underlying116 (by kernel_rfl) (by kernel_rfl) r0
    unfold Lib.TabIs
    rw [v0, ← this]
  · obtain ⟨u, v, hc⟩ := iface_of_trod Tryd.underlying92 r1
    refine ⟨u, v, ?_⟩
    rw [v1, ← Array.toArray_toList (xs := cs1), hc]
  · obtain ⟨u, v, hc⟩ := iface_of_trod Tryd.underlying92 r2
    refine ⟨u, v, ?_⟩
    rw [v2, ← Array.toArray_toList (xs := cs2), hc]
  · have := v4
    unfold World.var? at this
    rw [g_bits64] at this
    simp only [Option.bind_some] at this
    rcases Nat.lt_or_ge 4 W.heap.size with h' | h'
    · exact h'
    · simp [Array.getElem?_eq_none h'] at this
end

section
open Go.ChangeShapes Go.WideShapes Go.ChangeAt Go.RowKit
set_option maxRecDepth 100000
section
variable {H : Type} {enc : TypeId × Value → H} {P : Program}
theorem post_below {f : Func} {s : ChangeSpec} {apart fresh handsOn again : Bool} {W W' : World} {args : Array Value} {v : Value} {ds gs : List (DataW H)} {before pa pv : List MemPlace}
    (hW : DataW.Whole enc P f.params.toList s.vars apart W args.toList ds gs before)
    (hres : ∀ (b : Nat) (sp : Nat → Bool) (hd : Bool), DataW.TrodAll enc P W' b sp hd f.resultTypes.toList (v.resultList f.resultTypes.size) (s.fn H (ds ++ gs)).results [])
    (hargs : ∀ sp : Nat → Bool, (∀ p ∈ before, sp p.block = true) → DataW.TrodAll enc P W' 0 sp true f.params.toList args.toList (s.fn H (ds ++ gs)).args pa)
    (hvars : ∀ sp : Nat → Bool, (∀ p ∈ before, sp p.block = true) → DataW.TrodVars enc P W' sp s.vars (s.fn H (ds ++ gs)).vars pv)
    (hps : before = pa ++ pv) (hb : Below W.heap.size W W')
    (hok : ∀ (j : Nat) (t : TypeId) (r : Value), f.resultTypes[j]? = some t → (v.resultList f.resultTypes.size)[j]? = some r → Value.okWide P W' .any 0 t r) :
    s.post enc P f apart fresh handsOn again W args v W' := by
  have hlt : ∀ p ∈ before, p.block < W.heap.size := fun p hp => hW.lt p hp
  have hold : ∀ p ∈ before, (fun b => decide (b < W.heap.size)) p.block = true := fun p hp => by simpa using hlt p hp
  refine ⟨ds, gs, before, [], pa, pv, hW, hres _ _ _, hargs _ hold, hvars _ hold, World.keptBut_mono (fun p hp => ⟨hp, ?_⟩) (hb.frame (· ∈ before)), fun _ => ?_⟩
  · rw [hps, List.mem_append] at hp
    exact Or.inr hp
  · obtain ⟨_, _, _, _, _, hz, hn⟩ := hW
    refine ⟨hok, _, _, ([] ++ pa) ++ pv, ⟨[] ++ pa, pv, trodAll_append (hargs _ (fun _ _ => rfl)) (hres _ _ _), hvars _ (fun _ _ => rfl), rfl, ?_, ?_⟩, ?_⟩
    · intro b off hp
      have hin : MemPlace.cell b off ∈ before := by rw [hps]; simpa using hp
      rw [hb.frozen (hlt _ hin)]
      exact hz b off hin
    · intro ha
      have := hn ha
      rw [hps] at this
      simpa using this
    · intro p hp _
      rw [hps]
      simpa using hp
/-- An argument of the plain type: the value's form, the plain tree. -/
theorem open_arg {W : World} {base : Nat} {v : Value} {d : DataW H} {p : List MemPlace} (hv : Value.okWide Tryd.prog W .any base 24 v) (h : DataW.Trod enc Tryd.prog W 0 (fun _ => true) true 24 v d p) (hw : ∀ n ∈ d.weights Tryd.prog 24, n ≤ reachBytes) :
    ∃ t : PT, ArgP W t v ∧ okP t := by
  unfold Value.okWide at hv
  rw [Tryd.underlying24] at hv
  obtain ⟨cs, rfl, _, _⟩ := hv
  obtain ⟨fuel, hf⟩ := h
  obtain ⟨t, ht, hok⟩ := open_pt fuel (Nat.le_refl _) hf hw
  refine ⟨t, ?_, hok⟩
  cases t with
  | mk k n s l =>
    obtain ⟨h1, h2, la, lc, h3, h4⟩ := ht
    refine ⟨h1, h2, la, lc, ?_, h4⟩
    have h3' : cs.toList = [.int .i64 k, .int .i64 n, .string s, .slice la l.length lc] := h3
    rw [← Array.toArray_toList (xs := cs), h3']
end
theorem weights_at {H : Type} {ts : List TypeId} {ds : List (DataW H)} (h : (DataW.weightsEach Tryd.prog ts ds).all (· ≤ reachBytes) = true) {j : Nat} {t : TypeId} {d : DataW H} (ht : ts[j]? = some t) (hd : ds[j]? = some d) : ∀ n ∈ d.weights Tryd.prog t, n ≤ reachBytes :=
  fun n hn => by simpa using List.all_eq_true.1 h _ (DataW.weights_mem_each ht hd n hn)
theorem kidsT : Kids Tryd.prog (· < Tryd.prog.types.size) := kids_rows (by kernel_rfl) (by kernel_rfl)
theorem fullT : ∀ t e, t < Tryd.prog.types.size → Tryd.prog.underlying t = some (.slice e) → 0 < Tryd.prog.cellsOf e := slices_full_of Tryd.prog (by kernel_rfl)
section
variable {H : Type} {enc : TypeId × Value → H}
theorem trodAll_below {W W' : World} (hb : Below W.heap.size W W') : ∀ {ts : List TypeId} {vs : List Value} {ds : List (DataW H)} {ps : List MemPlace}, DataW.TrodAll enc Tryd.prog W 0 (fun _ => true) true ts vs ds ps → (∀ p ∈ ps, p.block < W.heap.size) → DataW.TrodAll enc Tryd.prog W' 0 (fun _ => true) true ts vs ds ps
  | [], [], [], _, h, _ => h
  | t :: ts, v :: vs, d :: ds, ps, ⟨p, q, ⟨n, hn⟩, h2, e⟩, hs => ⟨p, q, ⟨n, DataW.trod_carry n _ _ _ hn (fun x hx => hb.same (hs x (by rw [e]; exact List.mem_append_left _ hx)))⟩, trodAll_below hb h2 (fun x hx => hs x (by rw [e]; exact List.mem_append_right _ hx)), e⟩
end
end
end Go.Proofs.YtkpnnhebfaggeaaDoor
