/-
  The card of WorthOrder: Compare is an order over all plain values, 0 just of the same or of two that may not be.
  Conditions: none.
-/
import Derived.Test.YtkpnnhebfaggeaaDoorKitR
import Derived.Test.YtkpnnhebfaggeaaDoorKitD
import Derived.Test.YtkpnnhebfaggeaaDoorKitA
import Derived.Test.YtkpnnhebfaggeaaDoorCards
import Derived.Test.YtkpnnhebfaggeaaDoorTie
namespace Go.Proofs.YtkpnnhebfaggeaaDoor
section
open Go.ChangeShapes Go.WideShapes Go.ChangeAt Go.RowKit
set_option maxRecDepth 100000
theorem lifted_order (os : Os) (started : os.Started) (H : Type) (enc : TypeId × Value → H) :
    ReturnsInHanded {} Tryd.checked os 4 .any (fun w args => (Rows.worthOrderSpec.pre enc Tryd.prog Tryd.f4 [] false w args ∧ laidMetH Tryd.prog laid5 w) ∧ sizedMet enc Tryd.prog Tryd.f4 (OpenSpec.ofChange Rows.worthOrderSpec) false w args)
      (Rows.worthOrderSpec.post enc Tryd.prog Tryd.f4 false true false false) := by
  refine returnsInHanded_of_change_and (C := Tryd.checked) (X := fun w _ => laidMetH Tryd.prog laid5 w) (fun _ _ _ hh h => h.of_heap hh) own started (by kernel_rfl) Tryd.func4
    (ChangeSpec.witness_shaped (enc := enc) (C := Tryd.checked) (os := os) (X := fun w _ => laidMetH Tryd.prog laid5 w) false (World.doorLaid Tryd.prog 400 os) #[.agg #[.int .i64 0, .int .i64 0, .string ⟨#[]⟩, .slice none 0 0], .agg #[.int .i64 0, .int .i64 0, .string ⟨#[]⟩, .slice none 0 0], .agg #[.int .i64 0, .int .i64 0, .string ⟨#[]⟩, .slice none 0 0]] 8 rfl (World.shaped_of_RefB (by kernel_rfl) (by kernel_rfl)) (by kernel_rfl) (by kernel_rfl) (by kernel_rfl) (door_met os _)) ?_
  intro W base args ds gs before hval0 hW _ hsz hL _
  have hval : ∀ (j : Nat) t v, Tryd.f4.params[j]? = some t → args[j]? = some v → Value.okWide Tryd.prog W .any base t v := hval0
  have hW' := hW
  obtain ⟨p, q, hA0, hV, rfl, hfz, hnd⟩ := hW
  have hA : DataW.TrodAll enc Tryd.prog W 0 (fun _ => true) true Tryd.f4.params.toList args.toList ds p := hA0
  rw [Tryd.params4] at hA hval
  have hA1 := hA
  obtain ⟨v0, v1, v2, d0, d1, d2, p0, p1, p2, rfl, rfl, rfl, h0, h1, h2⟩ := trodAll_three hA
  obtain ⟨rfl, rfl⟩ := trodVars_none hV
  have hz : (DataW.weightsEach Tryd.prog [24, 24, 24] [d0, d1, d2]).all (· ≤ reachBytes) = true := by
    have h' : (DataW.weightsEach Tryd.prog (Tryd.f4.params.toList ++ []) ([d0, d1, d2] ++ [])).all (· ≤ reachBytes) = true := hsz
    rw [Tryd.params4] at h'
    exact h'
  obtain ⟨t0, ha0, _⟩ := open_arg (hval 0 24 v0 rfl rfl) h0 (weights_at hz (j := 0) rfl rfl)
  obtain ⟨t1, ha1, _⟩ := open_arg (hval 1 24 v1 rfl rfl) h1 (weights_at hz (j := 1) rfl rfl)
  obtain ⟨t2, ha2, _⟩ := open_arg (hval 2 24 v2 rfl rfl) h2 (weights_at hz (j := 2) rfl rfl)
  obtain ⟨htab, h5⟩ := tabs_of_laid hL
  clear hval0
  refine (law_order t0 t1 t2 W v0 v1 v2 ha0 ha1 ha2 F1 F2 F3 F4 (fun w hb => (begun_any w (htab.below hb h5) (Nat.le_trans h5 hb.size)))).mono fun e W' ⟨he, hg⟩ => ?_
  subst he
  simp only [List.append_nil] at hW'
  refine ⟨_, rfl, post_below (pv := []) hW' (fun _ _ _ => (trodAll_cons_mk (shut_bool Tryd.underlying4 _) trodAll_mk0)) ?_ (fun _ _ => rfl) (List.append_nil _).symm hg (ok_one (by kernel_rfl) rfl (okWide_bool_mk Tryd.underlying4 _))⟩
  intro sp hsp
  have hA2 : DataW.TrodAll enc Tryd.prog W' 0 sp true Tryd.f4.params.toList [v0, v1, v2] [d0, d1, d2] (p0 ++ p1 ++ p2) :=
    DataW.TrodAll.respare kidsT fullT (by rw [Tryd.params4]; decide) (trodAll_below hg (by rw [Tryd.params4]; exact hA1) (fun x hx => hW'.lt x hx)) hsp
  exact hA2
theorem over_order : Rows.worthOrderRow.holds Tryd.pinned (OpenSpec.ofChange Rows.worthOrderSpec) :=
  OpenClaim.holds_of_wide 4 Tryd.f4 rfl rfl rfl rfl rfl rfl rfl ⟨rfl, rfl, rfl, rfl, rfl⟩ rfl rfl rfl rfl rfl (by kernel_rfl) Tryd.func4 (by kernel_rfl)
    (of_decide_eq_true (by kernel_rfl)) (by unfold Func.isWrapper; first | (rw [if_pos (by decide +kernel)]; kernel_rfl) | (rw [if_neg (by decide +kernel)]; exact ⟨rfl, rfl⟩))
    (fun os started H enc _ => lifted_order os started H enc)
theorem worthOrder_holds : Rows.WorthOrderCardSaid :=
  Claim7.holds_tied_plain_at .later [] [.data, .data, .data, .sentinel, .sentinel] true (true, "87952721e25b2d47a731b52e3a2efbd7654279aba4613bb3f954613407b7271a") true
    over_order (fun _ h => by cases h) (by kernel_rfl) (fun _ h => by cases h) worthOrder_row_tie rfl ⟨rfl, rfl⟩ (by kernel_rfl) rfl
    (fun f fn hf hfn => by
      obtain rfl : f = 4 := Option.some.inj ((show Tryd.prog.funcNamed "espalier/espalierlaw2.WorthOrder" = some 4 by kernel_rfl).symm.trans hf) |>.symm
      obtain rfl : fn = Tryd.f4 := (Option.some.inj (Tryd.func4.symm.trans hfn)).symm
      exact ⟨by kernel_rfl, fun j t ht => by
        rw [Tryd.params4] at ht
        have h3 : t = 24 := by
          rcases j with _ | _ | _ | j
          · simpa using ht.symm
          · simpa using ht.symm
          · simpa using ht.symm
          · simp at ht
        subst h3
        exact (show Tryd.prog.wantsStandIn 24 = false by kernel_rfl)⟩)
    (by kernel_rfl)
#print axioms worthOrder_holds
end
end Go.Proofs.YtkpnnhebfaggeaaDoor
