/-
  An argument that is a slice of plain values.
  Conditions: none.
-/
import Derived.Test.YtkpnnhebfaggeaaDoorKitR
import Derived.WideShapes
import Derived.ChangeMaps5
import Derived.Test.YtkpnnhebfaggeaaDoorKitP
namespace Go.Proofs.YtkpnnhebfaggeaaDoor
section
open Go.ChangeShapes Go.WideShapes Go.ChangeAt Go.RowKit
set_option maxRecDepth 100000
section
variable {H : Type} {enc : TypeId × Value → H} {W : World} {spare : Nat → Bool} {held : Bool}
theorem open_sl {fuel : Nat} {cs : List Value} {x : DataW H × List MemPlace} (h3 : DataW.trod enc Tryd.prog W 0 spare held fuel 22 cs = some x) (hw : ∀ n ∈ x.1.weights Tryd.prog 22, n ≤ reachBytes) :
    ∃ l : List PT, l.length ≤ 4398046511104 ∧ okPs l ∧ ∃ la lc, cs = [.slice la l.length lc] ∧ (l ≠ [] → ∃ b' o', la = some ⟨b', o', none⟩ ∧ InPs W b' o' l) := by
  rcases DataW.trod_slice Tryd.underlying22 h3 with ⟨e3, rfl⟩ | ⟨a, len, cap, elems, rest, n1, rfl, e3, rfl, hb1, hlc, hcm, hel2, hels, _, _⟩
  · subst e3
    exact ⟨[], by simp, trivial, none, 0, rfl, by simp⟩
  · subst e3
    have hwl : ∀ z ∈ (len + rest.length) * 56 :: DataW.weightsAll Tryd.prog 24 (elems.map (·.1)), z ≤ reachBytes := by
      intro z hz
      refine hw z ?_
      simp only [DataW.weights, Tryd.underlying22, bytes24, List.length_map, List.mem_append, List.mem_cons, hel2] at hz ⊢
      rcases hz with hz | hz
      · exact .inl hz
      · exact .inr (.inl hz)
    have hln : len ≤ 4398046511104 := by
      have := hwl ((len + rest.length) * 56) (by simp)
      simp only [reachBytes] at this
      omega
    have hea : ∀ i, i < len → ∃ p : PT, (W.cells? 0 (a.add (i * 4)) 4 ≠ none ∧ ∀ cs, W.cells? 0 (a.add (i * 4)) 4 = some cs → CsP W p cs) ∧ okP p := by
      intro i hi
      have h4 := hels i hi
      rw [cells24] at h4
      have hi' : i < elems.length := by omega
      rw [List.getElem?_eq_getElem hi'] at h4
      cases hc : W.cells? 0 (a.add (i * 4)) 4 with
      | none => rw [hc] at h4; simp at h4
      | some cs =>
        rw [hc] at h4
        simp only [Option.bind_some] at h4
        obtain ⟨p, hp1, hp2⟩ := open_pt n1 (Nat.le_refl _) h4 (fun z hz => hwl z (List.mem_cons_of_mem _ (weights_mem_all (List.mem_map_of_mem (List.getElem_mem hi')) hz)))
        exact ⟨p, ⟨by simp, fun cs' h => by obtain rfl := Option.some.inj h; exact hp1⟩, hp2⟩
    obtain ⟨l, hl, hq⟩ := choose_list len hea
    refine ⟨l, by omega, okPs_of l fun i hi => (hq i hi).2, some a, cap, by rw [hl], fun hne => ?_⟩
    have hpos : 0 < l.length := List.length_pos_iff.2 hne
    obtain ⟨⟨hsome, _⟩, _⟩ := hq 0 hpos
    have hsp : a.spot = none := by
      cases hc : W.cells? 0 (a.add (0 * 4)) 4 with
      | none => exact absurd hc hsome
      | some cs =>
        unfold World.cells? at hc
        rw [if_pos (Nat.zero_le _)] at hc
        simp only [show List.range 4 = [0, 1, 2, 3] from by decide, List.mapM_cons, Option.bind_eq_bind, Option.bind_eq_some_iff] at hc
        obtain ⟨c0, h0, _⟩ := hc
        have : (a.add (0 * 4)).add 0 = a := by simp [Addr.add]
        rw [this] at h0
        exact World.cell?_spot h0
    obtain ⟨b', o', sp⟩ := a
    obtain rfl : sp = none := hsp
    refine ⟨b', o', rfl, inPs_of l o' fun i hi => ?_⟩
    obtain ⟨⟨hsome, hcs⟩, _⟩ := hq i hi
    have ea : (⟨b', o', none⟩ : Addr).add (i * 4) = ⟨b', o' + 4 * i, none⟩ := by rw [Go.WideShapes.add_plain, Nat.mul_comm]
    rw [ea] at hsome hcs
    cases hc : W.cells? 0 ⟨b', o' + 4 * i, none⟩ 4 with
    | none => exact absurd hc hsome
    | some cs => exact inP_of hc (hcs cs hc)
end
section
variable {H : Type} {enc : TypeId × Value → H}
/-- An argument of the slice type. -/
theorem open_slarg {W : World} {base : Nat} {v : Value} {d : DataW H} {p : List MemPlace} (hv : Value.okWide Tryd.prog W .any base 22 v) (h : DataW.Trod enc Tryd.prog W 0 (fun _ => true) true 22 v d p) (hw : ∀ n ∈ d.weights Tryd.prog 22, n ≤ reachBytes) :
    ∃ l : List PT, SlP W l v ∧ okPs l := by
  obtain ⟨a, len, cap, rfl⟩ := okWide_slice Tryd.underlying22 hv
  obtain ⟨fuel, hf⟩ := h
  obtain ⟨l, h1, h2, la, lc, h3, h4⟩ := open_sl hf hw
  have h3' : [Value.slice a len cap] = [.slice la l.length lc] := h3
  simp only [List.cons.injEq, and_true] at h3'
  exact ⟨l, ⟨h1, la, lc, h3', h4⟩, h2⟩
/-- An argument that is a string. -/
theorem open_strarg {W : World} {base : Nat} {v : Value} {d : DataW H} {p : List MemPlace} (hv : Value.okWide Tryd.prog W .any base 9 v) (h : DataW.Trod enc Tryd.prog W 0 (fun _ => true) true 9 v d p) (_ : ∀ n ∈ d.weights Tryd.prog 9, n ≤ reachBytes) :
    ∃ s : ByteArray, v = .string s ∧ s.size ≤ 9223372036854775807 := by
  obtain ⟨s, h1, _, _, h2⟩ := Go.ChangeMaps.open_string Tryd.underlying9 hv h
  exact ⟨s, h1, h2⟩
end
end
end Go.Proofs.YtkpnnhebfaggeaaDoor
