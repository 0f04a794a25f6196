/-
  Pure: reading is the inverse of writing.
  Conditions: none.
-/
import Derived.Test.YtkpnnhebfaggeaaDoorKitC
import Derived.Test.YtkpnnhebfaggeaaDoorKitP
import Derived.Test.YtkpnnhebfaggeaaDoorKitR
import Derived.Test.YtkpnnhebfaggeaaDoorKitD
import Derived.Test.YtkpnnhebfaggeaaDoorKitA
namespace Go.Proofs.YtkpnnhebfaggeaaDoor
section
open Go.RowKit
set_option maxRecDepth 100000
theorem dig_toNat {d : Nat} (h : d < 10) : (UInt8.ofNat (48 + d)).toNat = 48 + d := by
  rw [UInt8.toNat_ofNat']
  omega
theorem decDigits_big {u : Nat} (h : ¬ u < 10) : Lib.decDigits u = Lib.decDigits (u / 10) ++ [UInt8.ofNat (48 + u % 10)] := by rw [Lib.decDigits, dif_neg h]
/-- A digit. -/
def IsDig (c : UInt8) : Prop := 48 ≤ c.toNat ∧ c.toNat ≤ 57
theorem decDigits_dig : ∀ (n u : Nat), u < n → ∀ c ∈ Lib.decDigits u, IsDig c
  | 0, u, h, c, hc => by omega
  | n + 1, u, h, c, hc => by
    by_cases h1 : u < 10
    · rw [Lib.decDigits_one h1] at hc
      have : c = UInt8.ofNat (48 + u) := by simpa using hc
      subst this
      unfold IsDig
      rw [dig_toNat h1]; omega
    · rw [decDigits_big h1] at hc
      rcases List.mem_append.1 hc with hc | hc
      · exact decDigits_dig n (u / 10) (by omega) c hc
      · have : c = UInt8.ofNat (48 + u % 10) := by simpa using hc
        subst this
        unfold IsDig
        rw [dig_toNat (by omega)]; omega
/-- The first digit is no nought, but of 0. -/
theorem decDigits_head : ∀ (n u : Nat), u < n → 1 ≤ u → ∃ c r, Lib.decDigits u = c :: r ∧ 49 ≤ c.toNat ∧ c.toNat ≤ 57
  | 0, u, h, _ => by omega
  | n + 1, u, h, h0 => by
    by_cases h1 : u < 10
    · exact ⟨_, [], Lib.decDigits_one h1, by rw [dig_toNat h1]; omega, by rw [dig_toNat h1]; omega⟩
    · obtain ⟨c, r, e, h2, h3⟩ := decDigits_head n (u / 10) (by omega) (by omega)
      exact ⟨c, r ++ [UInt8.ofNat (48 + u % 10)], by rw [decDigits_big h1, e]; rfl, h2, h3⟩
theorem parse_step {M acc : Nat} {c : UInt8} {r : List UInt8} (hc : IsDig c) (h : acc * 10 + (c.toNat - 48) ≤ M) (hM : M ≤ 18446744073709551615) :
    Lib.parseUintM M acc (c :: r) = Lib.parseUintM M (acc * 10 + (c.toNat - 48)) r := by
  obtain ⟨h1, h2⟩ := hc
  rw [Lib.parseUintM, if_pos ⟨h1, h2⟩, if_neg (by omega), if_neg (by omega)]
/-- The digits of u are read as u. -/
theorem parse_dec {M : Nat} (hM : M ≤ 18446744073709551615) : ∀ (n u : Nat) (r : List UInt8), u < n → u ≤ M → Lib.parseUintM M 0 (Lib.decDigits u ++ r) = Lib.parseUintM M u r
  | 0, u, r, h, _ => by omega
  | n + 1, u, r, h, hu => by
    by_cases h1 : u < 10
    · rw [Lib.decDigits_one h1]
      show Lib.parseUintM M 0 (UInt8.ofNat (48 + u) :: r) = _
      have hd := dig_toNat h1
      rw [parse_step ⟨by omega, by omega⟩ (by omega) hM, hd]
      congr 1; omega
    · rw [decDigits_big h1, List.append_assoc, parse_dec hM n (u / 10) _ (by omega) (by omega)]
      show Lib.parseUintM M (u / 10) (UInt8.ofNat (48 + u % 10) :: r) = _
      have hd := dig_toNat (d := u % 10) (by omega)
      rw [parse_step ⟨by omega, by omega⟩ (by omega) hM, hd]
      congr 1; omega
theorem parseB_pos {u : Nat} (h : u ≤ 9223372036854775807) : Lib.parseIntB 64 (Lib.decDigits u) = .ok u := by
  have hp := parse_dec (M := 2 ^ 64 - 1) (by decide) (u + 1) u [] (by omega) (by omega)
  rw [List.append_nil] at hp
  have hd := decDigits_dig (u + 1) u (by omega)
  cases hl : Lib.decDigits u with
  | nil =>
    exfalso
    by_cases h0 : u < 10
    · rw [Lib.decDigits_one h0] at hl; simp at hl
    · rw [decDigits_big h0] at hl; simp at hl
  | cons c r =>
    have hc := hd c (by rw [hl]; simp)
    obtain ⟨c1, c2⟩ := hc
    rw [hl] at hp
    unfold Lib.parseIntB
    simp only
    rw [if_neg (by omega)]
    unfold Lib.parseUintB
    rw [if_neg (by simp), hp]
    simp only [Lib.parseUintM]
    rw [if_neg (by have : (2 : Nat) ^ (64 - 1) = 9223372036854775808 := by decide
                   omega), if_neg (by omega), if_neg (by omega)]
theorem parseB_neg {u : Nat} (h1 : 1 ≤ u) (h : u ≤ 9223372036854775808) : Lib.parseIntB 64 (45 :: Lib.decDigits u) = .ok (-(u : Int)) := by
  have hp := parse_dec (M := 2 ^ 64 - 1) (by decide) (u + 1) u [] (by omega) (by omega)
  rw [List.append_nil] at hp
  obtain ⟨c, r, e, _, _⟩ := decDigits_head (u + 1) u (by omega) h1
  unfold Lib.parseIntB
  simp only
  rw [if_pos (by decide)]
  unfold Lib.parseUintB
  rw [if_neg (by rw [e]; simp), hp]
  simp only [Lib.parseUintM]
  have e45 : (45 : UInt8).toNat = 45 := by decide
  have e63 : (2 : Nat) ^ (64 - 1) = 9223372036854775808 := by decide
  rw [if_neg (by omega), if_neg (by omega), if_pos (by decide)]
theorem parse_itoa {n : Int} (h : -9223372036854775808 ≤ n ∧ n ≤ 9223372036854775807) : Lib.parseIntB 64 (Lib.itoa n) = .ok n := by
  unfold Lib.itoa
  split
  · rw [parseB_neg (by omega) (by omega)]
    congr 1; omega
  · rw [parseB_pos (by omega)]
    congr 1; omega
/-- What is read of digits with no nought ahead has them as its own. -/
theorem dec_parse {M : Nat} : ∀ (l : List UInt8) (acc u : Nat), 1 ≤ acc → Lib.parseUintM M acc l = .ok u → Lib.decDigits u = Lib.decDigits acc ++ l ∧ acc ≤ u
  | [], acc, u, ha, h => by
    simp only [Lib.parseUintM, Lib.NumEnd.ok.injEq] at h
    subst h; simp
  | c :: r, acc, u, ha, h => by
    rw [Lib.parseUintM] at h
    split at h
    · rename_i hc
      split at h
      · cases h
      · split at h
        · cases h
        · obtain ⟨e, h2⟩ := dec_parse r _ u (by omega) h
          refine ⟨?_, by omega⟩
          have h3 : ¬ (acc * 10 + (c.toNat - 48)) < 10 := by omega
          rw [e, decDigits_big h3, List.append_assoc]
          have h4 : (acc * 10 + (c.toNat - 48)) / 10 = acc := by omega
          have h5 : 48 + (acc * 10 + (c.toNat - 48)) % 10 = c.toNat := by omega
          rw [h4, h5]
          simp
    · cases h
theorem dec_parse0 {M : Nat} {c : UInt8} {r : List UInt8} {u : Nat} (h1 : 49 ≤ c.toNat) (h2 : c.toNat ≤ 57) (h : Lib.parseUintM M 0 (c :: r) = .ok u) : Lib.decDigits u = c :: r ∧ 1 ≤ u := by
  rw [Lib.parseUintM, if_pos ⟨by omega, h2⟩, if_neg (by omega)] at h
  split at h
  · cases h
  · obtain ⟨e, h3⟩ := dec_parse r _ u (by omega) h
    refine ⟨?_, by omega⟩
    have h4 : (0 * 10 + (c.toNat - 48)) < 10 := by omega
    rw [e, Lib.decDigits_one h4]
    have h5 : 48 + (0 * 10 + (c.toNat - 48)) = c.toNat := by omega
    rw [h5]; simp
/-- A canonical numeral that is read as v is v's. -/
theorem itoa_parse {c : UInt8} {r : List UInt8} {v : Int} (h1 : 49 ≤ c.toNat) (h2 : c.toNat ≤ 57) (h : Lib.parseIntB 64 (c :: r) = .ok v) : Lib.itoa v = c :: r ∧ -9223372036854775808 ≤ v ∧ v ≤ 9223372036854775807 := by
  unfold Lib.parseIntB at h
  simp only at h
  rw [if_neg (by omega)] at h
  unfold Lib.parseUintB at h
  rw [if_neg (by simp)] at h
  split at h
  · cases h
  · cases h
  · rename_i u hu
    obtain ⟨e, h3⟩ := dec_parse0 h1 h2 hu
    split at h
    · cases h
    · rename_i h4
      split at h
      · cases h
      · have e63 : (2 : Nat) ^ (64 - 1) = 9223372036854775808 := by decide
        rw [if_neg (by omega)] at h
        simp only [Lib.NumEnd.ok.injEq] at h
        subst h
        refine ⟨?_, by omega, ?_⟩
        · rw [Lib.itoa_nonneg]; exact e
        · have : ¬ (9223372036854775808 ≤ u) := fun h5 => h4 ⟨by omega, by omega⟩
          omega
theorem itoa_parse_neg {c : UInt8} {r : List UInt8} {v : Int} (h1 : 49 ≤ c.toNat) (h2 : c.toNat ≤ 57) (h : Lib.parseIntB 64 (45 :: c :: r) = .ok v) : Lib.itoa v = 45 :: c :: r ∧ -9223372036854775808 ≤ v ∧ v ≤ 9223372036854775807 := by
  have e45 : (45 : UInt8).toNat = 45 := by decide
  unfold Lib.parseIntB at h
  simp only at h
  rw [if_pos (by decide)] at h
  unfold Lib.parseUintB at h
  rw [if_neg (by simp)] at h
  split at h
  · cases h
  · cases h
  · rename_i u hu
    obtain ⟨e, h3⟩ := dec_parse0 h1 h2 hu
    split at h
    · cases h
    · split at h
      · cases h
      · rename_i h4
        have e63 : (2 : Nat) ^ (64 - 1) = 9223372036854775808 := by decide
        simp only [Lib.NumEnd.ok.injEq] at h
        subst h
        have h5 : ¬ (9223372036854775808 < u) := fun h5 => h4 ⟨by omega, by omega⟩
        refine ⟨?_, by omega, by omega⟩
        rw [Lib.itoa_neg u h3, e]
theorem parse_zero {v : Int} (h : Lib.parseIntB 64 [48] = .ok v) : v = 0 := by
  have h0 := parseB_pos (u := 0) (by omega)
  rw [Lib.decDigits_one (by omega)] at h0
  have h1 : Lib.parseIntB 64 [48] = .ok ((0 : Nat) : Int) := h0
  rw [h1] at h
  simp only [Lib.NumEnd.ok.injEq] at h
  rw [← h]; rfl
theorem itoa_zero : Lib.itoa 0 = [48] := by
  have := Lib.itoa_nonneg 0
  rw [Lib.decDigits_one (by omega)] at this
  exact this
end

section
open Go.RowKit
set_option maxRecDepth 100000
theorem drop_cons {L : List UInt8} {a : Nat} {c : UInt8} (h : L[a]? = some c) : L.drop a = c :: L.drop (a + 1) := by
  obtain ⟨hlt, e⟩ := List.getElem?_eq_some_iff.1 h
  rw [List.drop_eq_getElem_cons hlt, e]
theorem at_drop {L : List UInt8} {a : Nat} {c : UInt8} {r : List UInt8} (h : L.drop a = c :: r) : L[a]? = some c ∧ L.drop (a + 1) = r := by
  have h1 : (L.drop a)[0]? = some c := by rw [h]; rfl
  rw [List.getElem?_drop] at h1
  refine ⟨by simpa using h1, ?_⟩
  have := congrArg (List.drop 1) h
  rw [List.drop_drop] at this
  simpa using this
theorem drop_app {L x r : List UInt8} {a : Nat} (h : L.drop a = x ++ r) : L.drop (a + x.length) = r := by
  have := congrArg (List.drop x.length) h
  rw [List.drop_drop, List.drop_left] at this
  exact this
theorem word_fwd {L : List UInt8} : ∀ (l r : List UInt8) (a : Nat), L.drop a = l ++ r → wordR L l a = .ok (a + l.length)
  | [], r, a, h => rfl
  | b :: l, r, a, h => by
    obtain ⟨h1, h2⟩ := at_drop (show L.drop a = b :: (l ++ r) from h)
    rw [wordR, if_pos h1, word_fwd l r (a + 1) h2, List.length_cons]
    congr 1; omega
theorem word_bwd {L : List UInt8} : ∀ (l : List UInt8) (a a' : Nat), wordR L l a = .ok a' → L.drop a = l ++ L.drop a'
  | [], a, a', h => by
    simp only [wordR, Except.ok.injEq] at h
    subst h; rfl
  | b :: l, a, a', h => by
    simp only [wordR] at h
    split at h
    · rename_i hc
      rw [drop_cons hc, word_bwd l (a + 1) a' h]; rfl
    · cases h
/-! hex digits -/
theorem hexI_of : ∀ n : Fin 16, hexI (hexd n.val) = (n.val : Int) := by decide
theorem hexd_all : ∀ c : Fin 256, 0 ≤ hexI (UInt8.ofNat c.val) → hexI (UInt8.ofNat c.val) ≤ 15 ∧ hexd (hexI (UInt8.ofNat c.val)).toNat = UInt8.ofNat c.val := by decide
theorem hexd_of {c : UInt8} (h : 0 ≤ hexI c) : hexI c ≤ 15 ∧ hexd (hexI c).toNat = c := by
  have := hexd_all ⟨c.toNat, c.toNat_lt⟩
  simp only [UInt8.ofNat_toNat] at this
  exact this h
theorem esc_bwd {L : List UInt8} {a a' : Nat} {x : UInt8} (h : escR L a = .ok (x, a')) : [92] ++ L.drop a = quoteB x ++ L.drop (a' + 1) := by
  unfold escR at h
  split at h
  · cases h
  · rename_i c hc
    split at h
    · rename_i h1
      simp only [Except.ok.injEq, Prod.mk.injEq] at h
      obtain ⟨rfl, rfl⟩ := h
      unfold quoteB
      rw [if_pos h1, drop_cons hc]; rfl
    · split at h
      · cases h
      · rename_i h1 h2
        have h120 : c.toNat = 120 := Classical.byContradiction h2
        have ec : c = 120 := UInt8.toNat_inj.1 (by rw [h120]; rfl)
        subst ec
        rw [escT] at h
        split at h
        · cases h
        · rename_i c1 hc1
          split at h
          · cases h
          · rename_i g1
            split at h
            · cases h
            · rw [escT] at h
              split at h
              · cases h
              · rename_i c2 hc2
                split at h
                · cases h
                · rename_i g2
                  split at h
                  · cases h
                  · rename_i g3
                    simp only [escT, Except.ok.injEq, Prod.mk.injEq] at h
                    obtain ⟨rfl, rfl⟩ := h
                    have p1 : 0 ≤ hexI c1 := by have := fun e => g1 (.inl e); omega
                    have p2 : 0 ≤ hexI c2 := by have := fun e => g2 (.inl e); omega
                    obtain ⟨q1, r1⟩ := hexd_of p1
                    obtain ⟨q2, r2⟩ := hexd_of p2
                    have hv : (UInt8.ofNat (((0 * 16 + hexI c1) * 16 + hexI c2).toNat)).toNat = (hexI c1).toNat * 16 + (hexI c2).toNat := by
                      rw [UInt8.toNat_ofNat']; omega
                    have g4 : ¬ (32 ≤ (hexI c1).toNat * 16 + (hexI c2).toNat ∧ (hexI c1).toNat * 16 + (hexI c2).toNat ≤ 126) := fun e => g3 ⟨rfl, by omega, by omega⟩
                    unfold quoteB
                    rw [hv, if_neg (by omega), if_neg (by omega), drop_cons hc, drop_cons hc1, drop_cons hc2]
                    have d1 : ((hexI c1).toNat * 16 + (hexI c2).toNat) / 16 = (hexI c1).toNat := by omega
                    have d2 : ((hexI c1).toNat * 16 + (hexI c2).toNat) % 16 = (hexI c2).toNat := by omega
                    rw [d1, d2, r1, r2]
                    rfl
theorem esc_fwd {L r : List UInt8} {a : Nat} {x : UInt8} (hx : quoteB x ≠ [x]) (h : [92] ++ L.drop a = quoteB x ++ r) : ∃ a', escR L a = .ok (x, a') ∧ a' + 2 = a + (quoteB x).length ∧ L.drop (a' + 1) = r := by
  unfold quoteB at h hx ⊢
  by_cases h1 : x.toNat = 34 ∨ x.toNat = 92
  · rw [if_pos h1] at h
    obtain ⟨e1, e2⟩ := at_drop (show L.drop a = x :: r from by simpa using h)
    refine ⟨a, ?_, by rw [if_pos h1]; simp, e2⟩
    unfold escR
    rw [e1]
    simp only
    rw [if_pos h1]
  · rw [if_neg h1] at h hx
    by_cases h2 : 32 ≤ x.toNat ∧ x.toNat ≤ 126
    · rw [if_pos h2] at hx; exact absurd rfl hx
    · rw [if_neg h2] at h
      obtain ⟨e1, f1⟩ := at_drop (show L.drop a = 120 :: (hexd (x.toNat / 16) :: hexd (x.toNat % 16) :: r) from by simpa using h)
      obtain ⟨e2, f2⟩ := at_drop f1
      obtain ⟨e3, f3⟩ := at_drop f2
      have hx256 := x.toNat_lt
      have i1 := hexI_of ⟨x.toNat / 16, by omega⟩
      have i2 := hexI_of ⟨x.toNat % 16, by omega⟩
      simp only at i1 i2
      refine ⟨a + 2, ?_, by rw [if_neg h1, if_neg h2]; simp, f3⟩
      unfold escR
      rw [e1]
      simp only
      rw [if_neg (by decide), if_neg (by decide), escT_some e2, if_neg (by rw [i1]; omega), if_neg (by omega), escT_some e3, if_neg (by rw [i2]; omega), if_neg (by rw [i1, i2]; omega)]
      simp only [escT]
      rw [i1, i2]
      have : UInt8.ofNat ((0 * 16 + ((x.toNat / 16 : Nat) : Int)) * 16 + ((x.toNat % 16 : Nat) : Int)).toNat = x := by
        have e : ((0 * 16 + ((x.toNat / 16 : Nat) : Int)) * 16 + ((x.toNat % 16 : Nat) : Int)).toNat = x.toNat := by omega
        rw [e]; simp
      rw [this]
theorem quote_cons (x : UInt8) (r : List UInt8) : quoteL (x :: r) = quoteB x ++ quoteL r := by simp [quoteL]
theorem text_bwd {L : List UInt8} : ∀ (k a : Nat) (acc acc' : List UInt8) (a' : Nat), textF L k a acc = .ok (acc', a') → ∃ x, acc' = acc ++ x ∧ L.drop a = quoteL x ++ [34] ++ L.drop a'
  | 0, a, acc, acc', a', h => by simp [textF] at h
  | k + 1, a, acc, acc', a', h => by
    simp only [textF] at h
    split at h
    · cases h
    · rename_i c hc
      split at h
      · cases h
      · rename_i h1
        split at h
        · rename_i h2
          simp only [Except.ok.injEq, Prod.mk.injEq] at h
          obtain ⟨rfl, rfl⟩ := h
          have ec : c = 34 := UInt8.toNat_inj.1 (by rw [h2]; rfl)
          subst ec
          exact ⟨[], by simp, by rw [drop_cons hc]; rfl⟩
        · rename_i h2
          split at h
          · rename_i h3
            have ec : c = 92 := UInt8.toNat_inj.1 (by rw [h3]; rfl)
            subst ec
            split at h
            · cases h
            · rename_i x q hq
              obtain ⟨y, e1, e2⟩ := text_bwd k (q + 1) _ _ _ h
              refine ⟨x :: y, by rw [e1]; simp, ?_⟩
              rw [drop_cons hc, quote_cons, List.append_assoc, List.append_assoc, ← List.append_assoc (quoteL y), ← e2]
              exact esc_bwd hq
          · rename_i h3
            obtain ⟨y, e1, e2⟩ := text_bwd k (a + 1) _ _ _ h
            refine ⟨c :: y, by rw [e1]; simp, ?_⟩
            have hq : quoteB c = [c] := by
              unfold quoteB
              rw [if_neg (by omega), if_pos (by omega)]
            rw [drop_cons hc, quote_cons, hq, e2]; rfl
theorem quoteB_one_or (x : UInt8) : (quoteB x = [x] ∧ x.toNat ≠ 34 ∧ x.toNat ≠ 92 ∧ 32 ≤ x.toNat ∧ x.toNat ≤ 126) ∨ (quoteB x ≠ [x] ∧ ∃ y, quoteB x = 92 :: y) := by
  unfold quoteB
  by_cases h1 : x.toNat = 34 ∨ x.toNat = 92
  · rw [if_pos h1]; exact .inr ⟨by simp, _, rfl⟩
  · rw [if_neg h1]
    by_cases h2 : 32 ≤ x.toNat ∧ x.toNat ≤ 126
    · rw [if_pos h2]; exact .inl ⟨rfl, by omega, by omega, h2.1, h2.2⟩
    · rw [if_neg h2]; exact .inr ⟨by simp, _, rfl⟩
theorem text_fwd {L : List UInt8} : ∀ (x : List UInt8) (k a : Nat) (acc r : List UInt8), x.length < k → L.drop a = quoteL x ++ [34] ++ r → textF L k a acc = .ok (acc ++ x, a + (quoteL x).length + 1)
  | [], 0, a, acc, r, hk, h => by omega
  | [], k + 1, a, acc, r, hk, h => by
    obtain ⟨e1, _⟩ := at_drop (show L.drop a = 34 :: r from by simpa [quoteL] using h)
    rw [textF, e1]
    simp only
    rw [if_neg (by decide), if_pos (by decide)]
    simp [quoteL]
  | x :: y, 0, a, acc, r, hk, h => by omega
  | x :: y, k + 1, a, acc, r, hk, h => by
    rw [quote_cons, List.append_assoc, List.append_assoc] at h
    rcases quoteB_one_or x with ⟨e, n1, n2, n3, n4⟩ | ⟨hne, z, e⟩
    · rw [e] at h
      obtain ⟨e1, e2⟩ := at_drop (show L.drop a = x :: (quoteL y ++ ([34] ++ r)) from h)
      rw [textF, e1]
      simp only
      rw [if_neg (by omega), if_neg n1, if_neg n2, text_fwd y k (a + 1) _ r (by simpa using hk) (by rw [e2, List.append_assoc]), quote_cons, e]
      simp; omega
    · have h' := h
      rw [e] at h'
      obtain ⟨e1, e2⟩ := at_drop (show L.drop a = 92 :: (z ++ (quoteL y ++ ([34] ++ r))) from h')
      obtain ⟨q, hq, hl, hd⟩ := esc_fwd (L := L) (a := a + 1) (x := x) (r := quoteL y ++ ([34] ++ r)) hne (by rw [e2, e]; rfl)
      rw [textF, e1]
      simp only
      rw [if_neg (by decide), if_neg (by decide), if_pos (by decide), hq]
      simp only
      rw [text_fwd y k (q + 1) _ r (by simpa using hk) (by rw [hd, List.append_assoc]), quote_cons]
      simp; omega
end

section
open Go.RowKit
set_option maxRecDepth 100000
theorem extract_list (s : ByteArray) (a e : Nat) : (s.extract a e).data.toList = (s.data.toList.drop a).take (e - a) := by
  simp [ByteArray.data_extract, Array.toList_extract, List.extract]
theorem drop_split (L : List UInt8) {a e : Nat} (h : a ≤ e) : L.drop a = (L.drop a).take (e - a) ++ L.drop e := by
  have h1 := List.take_append_drop (e - a) (L.drop a)
  rw [List.drop_drop, Nat.add_sub_cancel' h] at h1
  exact h1.symm
def EndOK (r : List UInt8) : Prop := ∀ c r', r = c :: r' → ¬ IsDig c
theorem scan_ge {L : List UInt8} : ∀ (k p : Nat), p ≤ scanD L k p
  | 0, p => Nat.le_refl _
  | k + 1, p => by
    unfold scanD
    split
    · exact Nat.le_refl _
    · split
      · have := scan_ge (L := L) k (p + 1); omega
      · exact Nat.le_refl _
theorem scan_fwd {L : List UInt8} : ∀ (ds r : List UInt8) (k p : Nat), ds.length < k → (∀ c ∈ ds, IsDig c) → EndOK r → L.drop p = ds ++ r → scanD L k p = p + ds.length
  | ds, r, 0, p, hk, _, _, _ => by omega
  | [], r, k + 1, p, hk, hd, he, h => by
    unfold scanD
    cases hr : r with
    | nil =>
      have : L[p]? = none := by
        have h1 : (L.drop p)[0]? = none := by rw [h, hr]; rfl
        rw [List.getElem?_drop] at h1
        simpa using h1
      rw [this]; rfl
    | cons c r' =>
      obtain ⟨e1, _⟩ := at_drop (show L.drop p = c :: r' from by rw [h, hr]; rfl)
      rw [e1]
      simp only
      rw [if_neg (show ¬ (48 ≤ c.toNat ∧ c.toNat ≤ 57) from he c r' hr)]; rfl
  | d :: ds, r, k + 1, p, hk, hd, he, h => by
    obtain ⟨e1, e2⟩ := at_drop (show L.drop p = d :: (ds ++ r) from h)
    unfold scanD
    rw [e1]
    simp only
    rw [if_pos (show 48 ≤ d.toNat ∧ d.toNat ≤ 57 from hd d (by simp)), scan_fwd ds r k (p + 1) (by simpa using hk) (fun c hc => hd c (by simp [hc])) he e2, List.length_cons]
    omega
theorem num_bwd {s : ByteArray} {a z : Nat} {t : VT} {a' z' : Nat} (h : numR s a z = .ok (t, a', z')) :
    ∃ n, t = .int n ∧ (-9223372036854775808 ≤ n ∧ n ≤ 9223372036854775807) ∧ s.data.toList.drop a = Lib.itoa n ++ s.data.toList.drop a' ∧ z' = z := by
  have key : ∀ e, a ≤ e → numV s a e z = .ok (t, a', z') → (∀ v, Lib.parseIntB 64 ((s.data.toList.drop a).take (e - a)) = .ok v → Lib.itoa v = (s.data.toList.drop a).take (e - a) ∧ -9223372036854775808 ≤ v ∧ v ≤ 9223372036854775807) →
      ∃ n, t = .int n ∧ (-9223372036854775808 ≤ n ∧ n ≤ 9223372036854775807) ∧ s.data.toList.drop a = Lib.itoa n ++ s.data.toList.drop a' ∧ z' = z := by
    intro e he hn hv
    unfold numV at hn
    rw [extract_list] at hn
    split at hn
    · rename_i v hp
      simp only [Except.ok.injEq, Prod.mk.injEq] at hn
      obtain ⟨rfl, rfl, rfl⟩ := hn
      obtain ⟨e1, e2⟩ := hv v hp
      exact ⟨v, rfl, e2, by rw [e1]; exact drop_split _ he, rfl⟩
    · cases hn
  unfold numR at h
  split at h
  · cases h
  · rename_i c hc
    split at h
    · rename_i h45
      have ec : c = 45 := UInt8.toNat_inj.1 (by rw [h45]; rfl)
      subst ec
      split at h
      · cases h
      · rename_i d hd
        split at h
        · rename_i h49
          have hge : a + 2 ≤ numEnd s.data.toList (a + 1) d := by
            unfold numEnd
            rw [if_neg (by omega)]
            exact scan_ge _ _
          refine key _ (by omega) h fun v hv => ?_
          have e1 : (s.data.toList.drop a).take (numEnd s.data.toList (a + 1) d - a) = 45 :: d :: (s.data.toList.drop (a + 2)).take (numEnd s.data.toList (a + 1) d - a - 2) := by
            rw [drop_cons hc, drop_cons hd]
            obtain ⟨m, hm⟩ : ∃ m, numEnd s.data.toList (a + 1) d - a = m + 2 := ⟨numEnd s.data.toList (a + 1) d - a - 2, by omega⟩
            rw [hm]; rfl
          rw [e1] at hv ⊢
          exact itoa_parse_neg h49.1 h49.2 hv
        · cases h
    · split at h
      · rename_i h48
        by_cases h0 : c.toNat = 48
        · have ec : c = 48 := UInt8.toNat_inj.1 (by rw [h0]; rfl)
          subst ec
          have e0 : numEnd s.data.toList a 48 = a + 1 := by unfold numEnd; rw [if_pos (by decide)]
          rw [e0] at h
          refine key _ (by omega) h fun v hv => ?_
          have e1 : (s.data.toList.drop a).take (a + 1 - a) = [48] := by
            rw [drop_cons hc, Nat.add_sub_cancel_left]; rfl
          rw [e1] at hv ⊢
          have := parse_zero hv
          subst this
          exact ⟨itoa_zero, by decide, by decide⟩
        · have hge : a + 1 ≤ numEnd s.data.toList a c := by
            unfold numEnd
            rw [if_neg h0]
            exact scan_ge _ _
          refine key _ (by omega) h fun v hv => ?_
          have e1 : (s.data.toList.drop a).take (numEnd s.data.toList a c - a) = c :: (s.data.toList.drop (a + 1)).take (numEnd s.data.toList a c - a - 1) := by
            rw [drop_cons hc]
            obtain ⟨m, hm⟩ : ∃ m, numEnd s.data.toList a c - a = m + 1 := ⟨numEnd s.data.toList a c - a - 1, by omega⟩
            rw [hm]; rfl
          rw [e1] at hv ⊢
          exact itoa_parse (by omega) h48.2 hv
      · cases h
theorem drop_len {L x r : List UInt8} {a : Nat} (h : L.drop a = x ++ r) : x.length ≤ L.length := by
  have := congrArg List.length h
  simp only [List.length_drop, List.length_append] at this
  omega
theorem num_fwd {s : ByteArray} {a z : Nat} {n : Int} {r : List UInt8} (hn : -9223372036854775808 ≤ n ∧ n ≤ 9223372036854775807) (hr : EndOK r) (h : s.data.toList.drop a = Lib.itoa n ++ r) :
    numR s a z = .ok (.int n, a + (Lib.itoa n).length, z) := by
  have hV : numV s a (a + (Lib.itoa n).length) z = .ok (.int n, a + (Lib.itoa n).length, z) := by
    unfold numV
    rw [extract_list, h, Nat.add_sub_cancel_left, List.take_left, parse_itoa hn]
  by_cases h0 : n < 0
  · have e1 : Lib.itoa n = 45 :: Lib.decDigits n.natAbs := by unfold Lib.itoa; rw [if_pos h0]
    obtain ⟨d, ds, e2, e3, e4⟩ := decDigits_head (n.natAbs + 1) n.natAbs (by omega) (by omega)
    have hdig := decDigits_dig (n.natAbs + 1) n.natAbs (by omega)
    rw [e2] at hdig
    rw [e1, e2] at hV ⊢
    rw [e1, e2] at h
    obtain ⟨c1, c2⟩ := at_drop (show s.data.toList.drop a = 45 :: (d :: (ds ++ r)) from h)
    obtain ⟨d1, d2⟩ := at_drop c2
    have hl := drop_len (L := s.data.toList) (a := a + 1 + 1) (x := ds) (r := r) d2
    have hsc := scan_fwd ds r (s.data.toList.length + 1) (a + 1 + 1) (by omega) (fun c hc => hdig c (by simp [hc])) hr d2
    unfold numR
    rw [c1]
    simp only
    rw [if_pos (by decide), d1]
    simp only
    rw [if_pos ⟨e3, e4⟩]
    unfold numEnd
    rw [if_neg (by omega), hsc]
    have : a + 1 + 1 + ds.length = a + (45 :: d :: ds).length := by simp; omega
    rw [this]; exact hV
  · have e1 : Lib.itoa n = Lib.decDigits n.toNat := by unfold Lib.itoa; rw [if_neg h0]
    by_cases hz : n.toNat = 0
    · have e2 : Lib.itoa n = [48] := by rw [e1, hz]; exact Lib.decDigits_one (by omega)
      rw [e2] at hV h ⊢
      obtain ⟨c1, c2⟩ := at_drop (show s.data.toList.drop a = 48 :: r from h)
      unfold numR
      rw [c1]
      simp only
      rw [if_neg (by decide), if_pos (by decide)]
      unfold numEnd
      rw [if_pos (by decide)]
      exact hV
    · obtain ⟨d, ds, e2, e3, e4⟩ := decDigits_head (n.toNat + 1) n.toNat (by omega) (by omega)
      have hdig := decDigits_dig (n.toNat + 1) n.toNat (by omega)
      rw [e2] at hdig
      rw [e1, e2] at hV ⊢
      rw [e1, e2] at h
      obtain ⟨d1, d2⟩ := at_drop (show s.data.toList.drop a = d :: (ds ++ r) from h)
      have hl := drop_len (L := s.data.toList) (a := a + 1) (x := ds) (r := r) d2
      have hsc := scan_fwd ds r (s.data.toList.length + 1) (a + 1) (by omega) (fun c hc => hdig c (by simp [hc])) hr d2
      unfold numR
      rw [d1]
      simp only
      rw [if_neg (by omega), if_pos ⟨by omega, e4⟩]
      unfold numEnd
      rw [if_neg (by omega), hsc]
      have : a + 1 + ds.length = a + (d :: ds).length := by simp; omega
      rw [this]; exact hV
end

section
open Go.RowKit
set_option maxRecDepth 100000
mutual
def sizeV : VT → Nat
  | .unit => 1
  | .truth _ => 1
  | .int _ => 1
  | .text s => 1 + s.size
  | .list l => 1 + sizeVs l
def sizeVs : List VT → Nat
  | [] => 0
  | t :: r => sizeV t + sizeVs r
end
mutual
def depW : VT → Nat
  | .list l => 1 + depWs l
  | .unit => 0
  | .truth _ => 0
  | .int _ => 0
  | .text _ => 0
def depWs : List VT → Nat
  | [] => 0
  | t :: r => max (depW t) (depWs r)
end
theorem quote_ge : ∀ x : List UInt8, x.length ≤ (quoteL x).length
  | [] => Nat.le_refl _
  | c :: r => by
    have := quote_ge r
    have h1 : 1 ≤ (quoteB c).length := by unfold quoteB; split; simp; split <;> simp
    rw [quote_cons, List.length_append, List.length_cons]; omega
theorem encR_eq (l : List VT) (h : l ≠ []) : encR l = [44, 32] ++ encL l := by
  cases l with
  | nil => exact absurd rfl h
  | cons t r => simp [encR, encL]
theorem c_eq {c : UInt8} {n : Nat} (h : c.toNat = n) (hn : n < 256) : c = UInt8.ofNat n := UInt8.toNat_inj.1 (by rw [h, UInt8.toNat_ofNat']; omega)
mutual
theorem val_bwd {s : ByteArray} : ∀ (k a z deep : Nat) (t : VT) (a' z' : Nat), deep ≤ 64 → valR s k a z deep = .ok (t, a', z') →
    s.data.toList.drop a = enc t ++ s.data.toList.drop a' ∧ z' = z + sizeV t ∧ deep + depW t ≤ 64 ∧ okV t
  | 0, a, z, deep, t, a', z', hd, h => by simp [valR] at h
  | k + 1, a, z, deep, t, a', z', hd, h => by
    simp only [valR] at h
    have hnum : numR s a (z + 1) = .ok (t, a', z') → s.data.toList.drop a = enc t ++ s.data.toList.drop a' ∧ z' = z + sizeV t ∧ deep + depW t ≤ 64 ∧ okV t := by
      intro hn
      obtain ⟨n, rfl, h1, h2, h3⟩ := num_bwd hn
      exact ⟨h2, h3, by simp [depW]; omega, h1⟩
    have hw : ∀ (t0 : VT) (l : List UInt8), enc t0 = l → sizeV t0 = 1 → depW t0 = 0 → okV t0 → wordV t0 (z + 1) (wordR s.data.toList l a) = .ok (t, a', z') →
        s.data.toList.drop a = enc t ++ s.data.toList.drop a' ∧ z' = z + sizeV t ∧ deep + depW t ≤ 64 ∧ okV t := by
      intro t0 l e1 e2 e3 e4 hv
      cases hr : wordR s.data.toList l a with
      | error p => rw [hr] at hv; cases hv
      | ok q =>
        rw [hr] at hv
        simp only [wordV, Except.ok.injEq, Prod.mk.injEq] at hv
        obtain ⟨rfl, rfl, rfl⟩ := hv
        exact ⟨by rw [e1]; exact word_bwd l a q hr, by rw [e2], by rw [e3]; omega, e4⟩
    split at h
    · exact hnum h
    · rename_i c hc
      split at h
      · exact hw .unit _ rfl rfl rfl trivial h
      · split at h
        · exact hw (.truth true) _ (by simp [enc]) rfl rfl trivial h
        · split at h
          · exact hw (.truth false) _ (by simp [enc]) rfl rfl trivial h
          · split at h
            · rename_i h34
              have ec : c = 34 := c_eq (n := 34) h34 (by decide)
              subst ec
              cases hr : textF s.data.toList (s.size + 1) (a + 1) [] with
              | error p => rw [hr] at h; cases h
              | ok q =>
                obtain ⟨acc, q⟩ := q
                rw [hr] at h
                simp only [textV, Except.ok.injEq, Prod.mk.injEq] at h
                obtain ⟨rfl, rfl, rfl⟩ := h
                obtain ⟨x, e1, e2⟩ := text_bwd _ _ _ _ _ hr
                rw [List.nil_append] at e1
                subst e1
                refine ⟨?_, ?_, by simp [depW]; omega, trivial⟩
                · rw [drop_cons hc, e2]; simp [enc]
                · have : (⟨acc.toArray⟩ : ByteArray).size = acc.length := by show acc.toArray.size = _; simp
                  simp only [sizeV]; omega
            · split at h
              · rename_i h91
                have ec : c = 91 := c_eq (n := 91) h91 (by decide)
                subst ec
                obtain ⟨b1, b2, b3, b4⟩ := list_bwd k a (z + 1) deep t a' z' hd hc h
                exact ⟨b1, by omega, b3, b4⟩
              · exact hnum h
theorem list_bwd {s : ByteArray} : ∀ (k a z deep : Nat) (t : VT) (a' z' : Nat), deep ≤ 64 → s.data.toList[a]? = some 91 → listR s k a z deep = .ok (t, a', z') →
    s.data.toList.drop a = enc t ++ s.data.toList.drop a' ∧ z' + 1 = z + sizeV t ∧ deep + depW t ≤ 64 ∧ okV t
  | 0, a, z, deep, t, a', z', hd, hc, h => by simp [listR] at h
  | k + 1, a, z, deep, t, a', z', hd, hc, h => by
    simp only [listR] at h
    split at h
    · cases h
    · split at h
      · rename_i hc1
        simp only [Except.ok.injEq, Prod.mk.injEq] at h
        obtain ⟨rfl, rfl, rfl⟩ := h
        refine ⟨by rw [drop_cons hc, drop_cons hc1]; simp [enc, encL], by simp [sizeV, sizeVs], by simp [depW, depWs]; omega, by simp [okV, okVs]⟩
      · rename_i hne _
        obtain ⟨l, h1, rfl, h2, h3, h4, h5⟩ := elems_bwd k (a + 1) z deep [] t a' z' (by omega) h
        rw [List.nil_append]
        refine ⟨by rw [drop_cons hc, h2]; simp [enc], by simp only [sizeV]; omega, by simp only [depW]; omega, by simp only [okV]; exact h5⟩
theorem elems_bwd {s : ByteArray} : ∀ (k a z deep : Nat) (acc : List VT) (t : VT) (a' z' : Nat), deep < 64 → elemsR s k a z deep acc = .ok (t, a', z') →
    ∃ l, l ≠ [] ∧ t = .list (acc ++ l) ∧ s.data.toList.drop a = encL l ++ [93] ++ s.data.toList.drop a' ∧ z' = z + sizeVs l ∧ deep + 1 + depWs l ≤ 64 ∧ okVs l
  | 0, a, z, deep, acc, t, a', z', hd, h => by simp [elemsR] at h
  | k + 1, a, z, deep, acc, t, a', z', hd, h => by
    simp only [elemsR] at h
    split at h
    · cases h
    · rename_i t0 a0 z0 hv
      obtain ⟨v1, v2, v3, v4⟩ := val_bwd k a z (deep + 1) t0 a0 z0 (by omega) hv
      split at h
      · rename_i hc
        simp only [Except.ok.injEq, Prod.mk.injEq] at h
        obtain ⟨rfl, rfl, rfl⟩ := h
        exact ⟨[t0], by simp, rfl, by rw [v1, drop_cons hc]; simp [encL, encR], by simp [sizeVs, v2], by simp only [depWs]; omega, v4, trivial⟩
      · split at h
        · split at h
          · cases h
          · rename_i q hq
            obtain ⟨l, h1, rfl, h2, h3, h4, h5⟩ := elems_bwd k q z0 deep _ t a' z' hd h
            refine ⟨t0 :: l, by simp, by simp, ?_, by simp only [sizeVs]; omega, by simp only [depWs]; omega, v4, h5⟩
            rw [v1, word_bwd _ _ _ hq, h2]
            simp [encL, encR_eq l h1]
        · cases h
end
mutual
def fuelV : VT → Nat
  | .list l => 2 + fuelEs l
  | .unit => 1
  | .truth _ => 1
  | .int _ => 1
  | .text _ => 1
def fuelEs : List VT → Nat
  | [] => 0
  | t :: r => 1 + max (fuelV t) (fuelEs r)
end
theorem itoa_head (n : Int) : ∃ c r, Lib.itoa n = c :: r ∧ (c.toNat = 45 ∨ (48 ≤ c.toNat ∧ c.toNat ≤ 57)) := by
  unfold Lib.itoa
  split
  · exact ⟨45, _, rfl, .inl (by decide)⟩
  · have hd := decDigits_dig (n.toNat + 1) n.toNat (by omega)
    by_cases h0 : n.toNat = 0
    · rw [h0, Lib.decDigits_one (by omega)]
      exact ⟨_, [], rfl, .inr (by decide)⟩
    · obtain ⟨c, r, e, h1, h2⟩ := decDigits_head (n.toNat + 1) n.toNat (by omega) (by omega)
      exact ⟨c, r, e, .inr ⟨by omega, h2⟩⟩
theorem enc_head (t : VT) : ∃ c r, enc t = c :: r ∧ c ≠ 93 := by
  cases t with
  | unit => exact ⟨117, _, rfl, by decide⟩
  | truth b => cases b; exact ⟨110, _, rfl, by decide⟩; exact ⟨121, _, rfl, by decide⟩
  | int n =>
    obtain ⟨c, r, e, h⟩ := itoa_head n
    refine ⟨c, r, e, fun h1 => ?_⟩
    subst h1
    have : (93 : UInt8).toNat = 93 := by decide
    omega
  | text s => exact ⟨34, _, rfl, by decide⟩
  | list l => exact ⟨91, _, rfl, by decide⟩
mutual
theorem val_fwd {s : ByteArray} : ∀ (t : VT) (k a z deep : Nat) (r : List UInt8), fuelV t ≤ k → okV t → deep + depW t ≤ 64 → EndOK r → s.data.toList.drop a = enc t ++ r →
    valR s k a z deep = .ok (t, a + (enc t).length, z + sizeV t)
  | .unit, 0, a, z, deep, r, hk, ho, hd, hr, h => by simp [fuelV] at hk
  | .truth _, 0, a, z, deep, r, hk, ho, hd, hr, h => by simp [fuelV] at hk
  | .int _, 0, a, z, deep, r, hk, ho, hd, hr, h => by simp [fuelV] at hk
  | .text _, 0, a, z, deep, r, hk, ho, hd, hr, h => by simp [fuelV] at hk
  | .list _, 0, a, z, deep, r, hk, ho, hd, hr, h => by simp [fuelV] at hk
  | .unit, k + 1, a, z, deep, r, hk, ho, hd, hr, h => by
    have hw := word_fwd [117, 110, 105, 116] r a h
    obtain ⟨c1, _⟩ := at_drop (show s.data.toList.drop a = 117 :: ([110, 105, 116] ++ r) from h)
    rw [valR, c1]
    simp only
    rw [if_pos (by decide), hw]; rfl
  | .truth true, k + 1, a, z, deep, r, hk, ho, hd, hr, h => by
    have h : s.data.toList.drop a = [121, 101, 115] ++ r := h
    have hw := word_fwd [121, 101, 115] r a h
    obtain ⟨c1, _⟩ := at_drop (show s.data.toList.drop a = 121 :: ([101, 115] ++ r) from h)
    rw [valR, c1]
    simp only
    rw [if_neg (by decide), if_pos (by decide), hw]; rfl
  | .truth false, k + 1, a, z, deep, r, hk, ho, hd, hr, h => by
    have h : s.data.toList.drop a = [110, 111] ++ r := h
    have hw := word_fwd [110, 111] r a h
    obtain ⟨c1, _⟩ := at_drop (show s.data.toList.drop a = 110 :: ([111] ++ r) from h)
    rw [valR, c1]
    simp only
    rw [if_neg (by decide), if_neg (by decide), if_pos (by decide), hw]; rfl
  | .int n, k + 1, a, z, deep, r, hk, ho, hd, hr, h => by
    have hn := num_fwd (z := z + 1) ho hr h
    obtain ⟨c, q, e, hc⟩ := itoa_head n
    have h' : s.data.toList.drop a = Lib.itoa n ++ r := h
    rw [e] at h'
    obtain ⟨c1, _⟩ := at_drop (show s.data.toList.drop a = c :: (q ++ r) from h')
    rw [valR, c1]
    simp only
    rw [if_neg (by omega), if_neg (by omega), if_neg (by omega), if_neg (by omega), if_neg (by omega), hn]; rfl
  | .text x, k + 1, a, z, deep, r, hk, ho, hd, hr, h => by
    have h : s.data.toList.drop a = [34] ++ quoteL x.data.toList ++ [34] ++ r := h
    obtain ⟨c1, c2⟩ := at_drop (show s.data.toList.drop a = 34 :: (quoteL x.data.toList ++ [34] ++ r) from by simpa using h)
    have hlen : x.data.toList.length < s.size + 1 := by
      have h1 := drop_len (L := s.data.toList) (a := a + 1) (x := quoteL x.data.toList) (r := [34] ++ r) (by rw [c2, List.append_assoc])
      have h2 : x.data.toList.length ≤ (quoteL x.data.toList).length := quote_ge _
      have h3 : s.data.toList.length = s.size := by simp
      omega
    have ht := text_fwd x.data.toList (s.size + 1) (a + 1) [] r hlen c2
    rw [valR, c1]
    simp only
    rw [if_neg (by decide), if_neg (by decide), if_neg (by decide), if_pos (by decide), ht]
    simp only [textV, List.nil_append, Array.toArray_toList, enc, sizeV, Except.ok.injEq, Prod.mk.injEq, true_and]
    refine ⟨by simp; omega, by simp; omega⟩
  | .list l, k + 1, a, z, deep, r, hk, ho, hd, hr, h => by
    have h : s.data.toList.drop a = [91] ++ encL l ++ [93] ++ r := h
    obtain ⟨c1, c2⟩ := at_drop (show s.data.toList.drop a = 91 :: (encL l ++ [93] ++ r) from by simpa using h)
    rw [valR, c1]
    simp only
    rw [if_neg (by decide), if_neg (by decide), if_neg (by decide), if_neg (by decide), if_pos (by decide)]
    have hk' : 1 + fuelEs l ≤ k := by simp only [fuelV] at hk; omega
    have hd' : deep + (1 + depWs l) ≤ 64 := hd
    obtain ⟨k, rfl⟩ : ∃ m, k = m + 1 := ⟨k - 1, by omega⟩
    rw [listR, if_neg (by omega)]
    by_cases hl : l = []
    · subst hl
      obtain ⟨d1, _⟩ := at_drop (show s.data.toList.drop (a + 1) = 93 :: r from c2)
      rw [if_pos d1]
      simp [enc, encL, sizeV, sizeVs]
    · have he := elems_fwd l k (a + 1) (z + 1) deep [] r hl (by omega) ho (by omega) c2
      have hne : ¬ (s.data.toList[a + 1]? = some 93) := by
        obtain ⟨t, q, rfl⟩ := List.exists_cons_of_ne_nil hl
        obtain ⟨c, y, e, hc⟩ := enc_head t
        have : s.data.toList.drop (a + 1) = c :: (y ++ encR q ++ [93] ++ r) := by rw [c2, encL, e]; simp
        rw [(at_drop this).1]
        simp [hc]
      rw [if_neg hne, he]
      simp only [List.nil_append, enc, sizeV, Except.ok.injEq, Prod.mk.injEq, true_and]
      refine ⟨by simp; omega, by omega⟩
theorem elems_fwd {s : ByteArray} : ∀ (l : List VT) (k a z deep : Nat) (acc : List VT) (r : List UInt8), l ≠ [] → fuelEs l ≤ k → okVs l → deep + 1 + depWs l ≤ 64 → s.data.toList.drop a = encL l ++ [93] ++ r →
    elemsR s k a z deep acc = .ok (.list (acc ++ l), a + (encL l).length + 1, z + sizeVs l)
  | [], k, a, z, deep, acc, r, hl, hk, ho, hd, h => absurd rfl hl
  | t :: q, 0, a, z, deep, acc, r, hl, hk, ho, hd, h => by simp only [fuelEs] at hk; omega
  | t :: q, k + 1, a, z, deep, acc, r, hl, hk, ho, hd, h => by
    simp only [fuelEs, depWs] at hk hd
    obtain ⟨ho1, ho2⟩ := ho
    by_cases hq : q = []
    · subst hq
      have h1 : s.data.toList.drop a = enc t ++ (93 :: r) := by rw [h]; simp [encL, encR]
      have hv := val_fwd t k a z (deep + 1) (93 :: r) (by omega) ho1 (by omega) (fun c r' e => by
        simp only [List.cons.injEq] at e
        rw [← e.1]; unfold IsDig; decide) h1
      have h2 := (at_drop (drop_app h1)).1
      rw [elemsR, hv]
      simp only
      rw [if_pos h2]
      simp [encL, encR, sizeVs]
    · have h1 : s.data.toList.drop a = enc t ++ (44 :: (32 :: (encL q ++ [93] ++ r))) := by rw [h]; simp [encL, encR_eq q hq]
      have hv := val_fwd t k a z (deep + 1) (44 :: (32 :: (encL q ++ [93] ++ r))) (by omega) ho1 (by omega) (fun c r' e => by
        simp only [List.cons.injEq] at e
        rw [← e.1]; unfold IsDig; decide) h1
      have h2 := drop_app h1
      have h3 := (at_drop h2).1
      have hw := word_fwd [44, 32] (encL q ++ [93] ++ r) _ h2
      have h4 := drop_app (x := [44, 32]) (r := encL q ++ [93] ++ r) h2
      have he := elems_fwd q k (a + (enc t).length + 2) (z + sizeV t) deep (acc ++ [t]) r hq (by omega) ho2 (by omega) h4
      rw [elemsR, hv]
      simp only
      rw [if_neg (by rw [h3]; decide), if_pos h3, hw]
      simp only
      rw [show ([44, 32] : List UInt8).length = 2 from rfl, he]
      simp only [List.append_assoc, List.cons_append, List.nil_append, Except.ok.injEq, Prod.mk.injEq, true_and, encL, encR_eq q hq, sizeVs]
      refine ⟨by simp; omega, by omega⟩
end
end

section
open Go.RowKit
set_option maxRecDepth 100000
mutual
theorem fuel_le : ∀ t : VT, fuelV t ≤ 3 * (enc t).length
  | .unit => by simp [fuelV, enc]
  | .truth b => by cases b <;> simp [fuelV, enc]
  | .int n => by
    obtain ⟨c, r, e, _⟩ := itoa_head n
    simp only [fuelV, enc, e, List.length_cons]; omega
  | .text s => by simp only [fuelV, enc, List.length_append, List.length_cons]; omega
  | .list l => by
    have := fuels_le l
    simp only [fuelV, enc, List.length_append, List.length_cons, List.length_nil]; omega
theorem fuels_le : ∀ l : List VT, fuelEs l ≤ 3 * (encL l).length + 1
  | [] => by simp [fuelEs]
  | t :: q => by
    have h1 := fuel_le t
    have h2 := fuels_le q
    simp only [fuelEs, encL, List.length_append]
    by_cases hq : q = []
    · subst hq
      simp only [fuelEs]; omega
    · rw [encR_eq q hq]
      simp only [List.length_append, List.length_cons, List.length_nil]; omega
end
theorem read_enc {s : ByteArray} {t : VT} (hs : s.data.toList = enc t) (ho : okV t) (hz : sizeV t ≤ 65536) (hd : depW t ≤ 64) : readR s = .ok t := by
  have hsz : s.size = (enc t).length := by rw [← hs]; simp
  have h := val_fwd (s := s) t (3 * s.size + 3) 0 0 0 [] (by have := fuel_le t; omega) ho (by omega) (fun c r e => by simp at e) (by rw [List.drop_zero, hs, List.append_nil])
  unfold readR
  rw [h]
  simp only
  rw [if_neg (by omega), if_neg (by omega)]
theorem read_back {s : ByteArray} {t : VT} (h : readR s = .ok t) : enc t = s.data.toList ∧ sizeV t ≤ 65536 ∧ depW t ≤ 64 ∧ okV t := by
  unfold readR at h
  split at h
  · cases h
  · rename_i t0 a' z' hv
    split at h
    · cases h
    · rename_i h1
      split at h
      · cases h
      · rename_i h2
        simp only [Except.ok.injEq] at h
        subst h
        obtain ⟨b1, b2, b3, b4⟩ := val_bwd _ _ _ _ _ _ _ (by omega) hv
        rw [List.drop_zero, List.drop_eq_nil_of_le (by simp; omega), List.append_nil] at b1
        exact ⟨b1.symm, by omega, by omega, b4⟩
mutual
theorem val_plain : ∀ t : VT, valOf (plainOf t) = t
  | .unit => by simp [plainOf, valOf]
  | .truth b => by cases b <;> simp [plainOf, valOf]
  | .int n => by simp [plainOf, valOf]
  | .text s => by simp [plainOf, valOf]
  | .list l => by simp [plainOf, valOf, vals_plains l]
theorem vals_plains : ∀ l : List VT, valsOf (plainsOf l) = l
  | [] => rfl
  | t :: r => by simp only [plainsOf, valsOf, val_plain t, vals_plains r]
end
mutual
theorem okP_plain : ∀ t : VT, okV t → okP (plainOf t)
  | .unit, h => by simp [plainOf, okP, okPs]
  | .truth b, h => by cases b <;> simp [plainOf, okP, okPs]
  | .int n, h => by simp only [plainOf, okP, okPs, and_true]; exact h
  | .text s, h => by simp [plainOf, okP, okPs]
  | .list l, h => by simp only [plainOf, okP]; exact ⟨by decide, okPs_plain l h⟩
theorem okPs_plain : ∀ l : List VT, okVs l → okPs (plainsOf l)
  | [], _ => trivial
  | t :: r, h => ⟨okP_plain t h.1, okPs_plain r h.2⟩
end
mutual
theorem small_of : ∀ t : VT, nodesV t ≤ sizeV t ∧ depV t ≤ depW t ∧ (sizeV t ≤ 65536 → txtV t)
  | .unit => by simp [nodesV, sizeV, depV, depW, txtV]
  | .truth b => by simp [nodesV, sizeV, depV, depW, txtV]
  | .int n => by simp [nodesV, sizeV, depV, depW, txtV]
  | .text s => by simp [nodesV, sizeV, depV, depW, txtV]; omega
  | .list l => by
    obtain ⟨h1, h2, h3⟩ := smalls_of l
    simp only [nodesV, sizeV, depV, depW, txtV]
    exact ⟨by omega, by omega, fun h => h3 (by omega)⟩
theorem smalls_of : ∀ l : List VT, nodesVs l ≤ sizeVs l ∧ depVs l ≤ 1 + depWs l ∧ (sizeVs l ≤ 65536 → txtVs l)
  | [] => by simp [nodesVs, sizeVs, depVs, depWs, txtVs]
  | t :: r => by
    obtain ⟨a1, a2, a3⟩ := small_of t
    obtain ⟨b1, b2, b3⟩ := smalls_of r
    simp only [nodesVs, sizeVs, depVs, depWs, txtVs]
    exact ⟨by omega, by omega, fun h => ⟨a3 (by omega), b3 (by omega)⟩⟩
end
theorem nil_toList : (⟨#[]⟩ : ByteArray).toList = [] := by simp [ByteArray.toList_eq]
mutual
theorem meas_plain : ∀ (t : VT) (left deep : Int), (sizeV t : Int) ≤ left → deep + depW t ≤ 64 → meas (plainOf t) left deep = ((sizeV t : Int), true)
  | .unit, left, deep, hl, hd => by
    simp only [sizeV] at hl
    unfold plainOf meas
    rw [if_neg (by simp; omega), if_pos rfl]; simp [sizeV]
  | .truth b, left, deep, hl, hd => by
    simp only [sizeV] at hl
    unfold plainOf meas
    rw [if_neg (by simp; omega), if_neg (by decide), if_pos rfl]
    cases b <;> simp [sizeV]
  | .int n, left, deep, hl, hd => by
    simp only [sizeV] at hl
    unfold plainOf meas
    rw [if_neg (by simp; omega), if_neg (by decide), if_neg (by decide), if_pos rfl]; simp [sizeV]
  | .text s, left, deep, hl, hd => by
    simp only [sizeV] at hl
    unfold plainOf meas
    rw [if_neg (by simp; omega), if_neg (by decide), if_neg (by decide), if_neg (by decide), if_pos rfl]
    have : (s.size : Int) < left := by omega
    simp [sizeV, this]
  | .list l, left, deep, hl, hd => by
    simp only [sizeV, depW] at hl hd
    have h0 := Int.natCast_nonneg (depWs l)
    unfold plainOf meas
    rw [if_neg (by simp; omega), if_neg (by decide), if_neg (by decide), if_neg (by decide), if_neg (by decide), if_pos rfl, if_neg (by simp; omega),
      measL_plain l left (deep + 1) 1 (by omega) (by omega)]
    simp [sizeV]
theorem measL_plain : ∀ (l : List VT) (left deep n : Int), n + (sizeVs l : Int) ≤ left → deep + depWs l ≤ 64 → measL (plainsOf l) left deep n = (n + (sizeVs l : Int), true)
  | [], left, deep, n, hl, hd => by simp [plainsOf, measL, sizeVs]
  | t :: r, left, deep, n, hl, hd => by
    simp only [sizeVs, depWs] at hl hd
    have h1 := meas_plain t (left - n) deep (by omega) (by omega)
    simp only [plainsOf, measL]
    rw [h1]
    simp only [if_true]
    rw [measL_plain r left deep _ (by omega) (by omega)]
    simp only [sizeVs, Prod.mk.injEq, and_true]; omega
end
theorem may_of_plain {t : VT} (hz : sizeV t ≤ 65536) (hd : depW t ≤ 64) : mayP (plainOf t) = true := by
  unfold mayP
  rw [meas_plain t 65536 0 (by omega) (by omega)]
mutual
theorem size_may : ∀ (p : PT) (left deep : Int), left ≤ 65536 → deep ≤ 64 → (meas p left deep).2 = true → (sizeV (valOf p) : Int) = (meas p left deep).1 ∧ deep + depW (valOf p) ≤ 64
  | .mk k n s l, left, deep, hl, hd, h => by
    unfold meas at h ⊢
    split at h
    · simp at h
    · rename_i h0
      rw [if_neg h0]
      split at h
      · rename_i h1; rw [if_pos h1]; subst h1; simp [valOf, sizeV, depW]; omega
      · rename_i h1
        rw [if_neg h1]
        split at h
        · rename_i h2; rw [if_pos h2]; subst h2; simp [valOf, sizeV, depW]; omega
        · rename_i h2
          rw [if_neg h2]
          split at h
          · rename_i h3; rw [if_pos h3]; subst h3; simp [valOf, sizeV, depW]; omega
          · rename_i h3
            rw [if_neg h3]
            split at h
            · rename_i h4; rw [if_pos h4]; subst h4; simp [valOf, sizeV, depW]; omega
            · rename_i h4
              rw [if_neg h4]
              split at h
              · rename_i h5
                rw [if_pos h5]
                split at h
                · simp at h
                · rename_i h6
                  rw [if_neg h6]
                  subst h5
                  have hdd : deep ≠ 64 := fun e => h6 (.inr e)
                  obtain ⟨e1, e2⟩ := sizes_may l left (deep + 1) 1 (by omega) hl (by omega) h
                  refine ⟨by simp [valOf, sizeV]; omega, by simp [valOf, depW]; omega⟩
              · simp at h
theorem sizes_may : ∀ (l : List PT) (left deep n : Int), 0 ≤ n → left ≤ 65536 → deep ≤ 64 → (measL l left deep n).2 = true → n + (sizeVs (valsOf l) : Int) = (measL l left deep n).1 ∧ deep + depWs (valsOf l) ≤ 64
  | [], left, deep, n, hn, hl, hd, h => by simp [measL, valsOf, sizeVs, depWs]; omega
  | p :: r, left, deep, n, hn, hl, hd, h => by
    simp only [measL] at h ⊢
    split at h
    · rename_i hp
      rw [if_pos hp]
      obtain ⟨a1, a2⟩ := size_may p (left - n) deep (by omega) hd hp
      obtain ⟨b1, b2⟩ := sizes_may r left deep _ (by omega) hl hd h
      simp only [valsOf, sizeVs, depWs]
      exact ⟨by omega, by omega⟩
    · simp at h
end
theorem may_size {p : PT} (h : mayP p = true) : sizeV (valOf p) ≤ 65536 ∧ depW (valOf p) ≤ 64 := by
  have h1 := size_may p 65536 0 (by omega) (by omega) h
  have h2 := meas_bd p 65536 0 h
  omega
mutual
theorem cmpV_refl : ∀ t : VT, cmpV t t = 0
  | .unit => by simp [cmpV, ordI]
  | .truth b => by simp [cmpV, ordI]
  | .int n => by simp [cmpV, ordI]
  | .text s => by rw [cmpV]; exact ordS_eq rfl
  | .list l => by rw [cmpV]; exact cmpL_refl l
theorem cmpL_refl : ∀ l : List VT, cmpL l l = 0
  | [] => rfl
  | t :: r => by simp [cmpL, cmpV_refl t, cmpL_refl r]
end
theorem bytes_ext {a b : ByteArray} (h : a.toList = b.toList) : a = b := by
  rw [ByteArray.toList_eq, ByteArray.toList_eq] at h
  obtain ⟨⟨x⟩⟩ := a
  obtain ⟨⟨y⟩⟩ := b
  simp at h
  subst h
  rfl
mutual
theorem cmpV_eq : ∀ a b : VT, cmpV a b = 0 → a = b
  | .unit, .unit, h => rfl
  | .truth a, .truth b, h => by
    simp only [cmpV] at h
    have := ordI_zero.1 h
    cases a <;> cases b <;> simp_all [bitI]
  | .int a, .int b, h => by
    simp only [cmpV] at h
    rw [ordI_zero.1 h]
  | .text a, .text b, h => by
    simp only [cmpV] at h
    rcases ordS_cases a b with ⟨h1, _⟩ | ⟨_, h2⟩ | ⟨h1, _⟩
    · omega
    · rw [bytes_ext h2]
    · omega
  | .list a, .list b, h => by
    simp only [cmpV] at h
    rw [cmpL_eq a b h]
  | .unit, .truth _, h => by simp [cmpV, ordI, rankV] at h
  | .unit, .int _, h => by simp [cmpV, ordI, rankV] at h
  | .unit, .text _, h => by simp [cmpV, ordI, rankV] at h
  | .unit, .list _, h => by simp [cmpV, ordI, rankV] at h
  | .truth _, .unit, h => by simp [cmpV, ordI, rankV] at h
  | .truth _, .int _, h => by simp [cmpV, ordI, rankV] at h
  | .truth _, .text _, h => by simp [cmpV, ordI, rankV] at h
  | .truth _, .list _, h => by simp [cmpV, ordI, rankV] at h
  | .int _, .unit, h => by simp [cmpV, ordI, rankV] at h
  | .int _, .truth _, h => by simp [cmpV, ordI, rankV] at h
  | .int _, .text _, h => by simp [cmpV, ordI, rankV] at h
  | .int _, .list _, h => by simp [cmpV, ordI, rankV] at h
  | .text _, .unit, h => by simp [cmpV, ordI, rankV] at h
  | .text _, .truth _, h => by simp [cmpV, ordI, rankV] at h
  | .text _, .int _, h => by simp [cmpV, ordI, rankV] at h
  | .text _, .list _, h => by simp [cmpV, ordI, rankV] at h
  | .list _, .unit, h => by simp [cmpV, ordI, rankV] at h
  | .list _, .truth _, h => by simp [cmpV, ordI, rankV] at h
  | .list _, .int _, h => by simp [cmpV, ordI, rankV] at h
  | .list _, .text _, h => by simp [cmpV, ordI, rankV] at h
theorem cmpL_eq : ∀ a b : List VT, cmpL a b = 0 → a = b
  | [], [], h => rfl
  | [], _ :: _, h => by simp [cmpL] at h
  | _ :: _, [], h => by simp [cmpL] at h
  | a :: r, b :: q, h => by
    simp only [cmpL] at h
    split at h
    · rename_i h1; exact absurd h h1
    · rename_i h1
      rw [cmpV_eq a b (Classical.byContradiction h1), cmpL_eq r q h]
end
end

section
open Go.RowKit
set_option maxRecDepth 100000
theorem at_lt {L : List UInt8} {a : Nat} {c : UInt8} (h : L[a]? = some c) : a < L.length := (List.getElem?_eq_some_iff.1 h).1
theorem word_err {L : List UInt8} : ∀ (l : List UInt8) (a p : Nat), a ≤ L.length → wordR L l a = .error p → p ≤ L.length
  | [], a, p, ha, h => by simp [wordR] at h
  | b :: l, a, p, ha, h => by
    simp only [wordR] at h
    split at h
    · rename_i hc
      exact word_err l (a + 1) p (at_lt hc) h
    · simp only [Except.error.injEq] at h; omega
theorem escT_err {L : List UInt8} : ∀ (k : Nat) (n : Int) (a p : Nat), a < L.length → escT L k n a = .error p → p ≤ L.length
  | 0, n, a, p, ha, h => by simp [escT] at h
  | k + 1, n, a, p, ha, h => by
    rw [escT] at h
    split at h
    · simp only [Except.error.injEq] at h; omega
    · rename_i c hc
      split at h
      · simp only [Except.error.injEq] at h; omega
      · split at h
        · simp only [Except.error.injEq] at h; omega
        · exact escT_err k _ (a + 1) p (at_lt hc) h
theorem escR_err {L : List UInt8} {a p : Nat} (ha : a ≤ L.length) (h : escR L a = .error p) : p ≤ L.length := by
  unfold escR at h
  split at h
  · simp only [Except.error.injEq] at h; omega
  · rename_i c hc
    split at h
    · cases h
    · split at h
      · simp only [Except.error.injEq] at h; omega
      · exact escT_err 2 0 a p (at_lt hc) h
theorem text_err {L : List UInt8} : ∀ (k a : Nat) (acc : List UInt8) (p : Nat), a ≤ L.length → textF L k a acc = .error p → p ≤ L.length
  | 0, a, acc, p, ha, h => by simp only [textF, Except.error.injEq] at h; omega
  | k + 1, a, acc, p, ha, h => by
    simp only [textF] at h
    split at h
    · simp only [Except.error.injEq] at h; omega
    · rename_i c hc
      have hlt := at_lt hc
      split at h
      · simp only [Except.error.injEq] at h; omega
      · split at h
        · cases h
        · split at h
          · split at h
            · rename_i q hq
              simp only [Except.error.injEq] at h
              subst h
              exact escR_err hlt hq
            · rename_i x q hq
              have := (escR_bd hq).2
              exact text_err k (q + 1) _ p (by omega) h
          · exact text_err k (a + 1) _ p hlt h
theorem num_err {s : ByteArray} {a z p : Nat} {c : Int} (ha : a ≤ s.size) (h : numR s a z = .error (p, c)) : p ≤ s.size ∧ c ≠ 0 := by
  have hsz : s.data.toList.length = s.size := by simp
  have key : ∀ e, numV s a e z = .error (p, c) → p ≤ s.size ∧ c ≠ 0 := by
    intro e hn
    unfold numV at hn
    split at hn
    · cases hn
    · simp only [Except.error.injEq, Prod.mk.injEq] at hn
      obtain ⟨rfl, rfl⟩ := hn
      exact ⟨ha, by decide⟩
  unfold numR at h
  split at h
  · simp only [Except.error.injEq, Prod.mk.injEq] at h
    obtain ⟨rfl, rfl⟩ := h
    exact ⟨ha, by decide⟩
  · rename_i b hb
    have hlt := at_lt hb
    split at h
    · split at h
      · simp only [Except.error.injEq, Prod.mk.injEq] at h
        obtain ⟨rfl, rfl⟩ := h
        exact ⟨by omega, by decide⟩
      · split at h
        · exact key _ h
        · simp only [Except.error.injEq, Prod.mk.injEq] at h
          obtain ⟨rfl, rfl⟩ := h
          exact ⟨by omega, by decide⟩
    · split at h
      · exact key _ h
      · simp only [Except.error.injEq, Prod.mk.injEq] at h
        obtain ⟨rfl, rfl⟩ := h
        exact ⟨ha, by decide⟩
mutual
theorem val_err {s : ByteArray} : ∀ (k a z deep p : Nat) (c : Int), a ≤ s.size → z ≤ a → valR s k a z deep = .error (p, c) → p ≤ s.size ∧ c ≠ 0
  | 0, a, z, deep, p, c, ha, hz, h => by
    simp only [valR, Except.error.injEq, Prod.mk.injEq] at h
    obtain ⟨rfl, rfl⟩ := h
    exact ⟨ha, by decide⟩
  | k + 1, a, z, deep, p, c, ha, hz, h => by
    have hsz : s.data.toList.length = s.size := by simp
    simp only [valR] at h
    have hw : ∀ (t0 : VT) (l : List UInt8), wordV t0 (z + 1) (wordR s.data.toList l a) = .error (p, c) → p ≤ s.size ∧ c ≠ 0 := by
      intro t0 l hv
      cases hr : wordR s.data.toList l a with
      | error q =>
        rw [hr] at hv
        simp only [wordV, Except.error.injEq, Prod.mk.injEq] at hv
        obtain ⟨rfl, rfl⟩ := hv
        exact ⟨by have := word_err l a q (by omega) hr; omega, by decide⟩
      | ok q => rw [hr] at hv; cases hv
    split at h
    · exact num_err ha h
    · rename_i b hb
      have hlt := at_lt hb
      split at h
      · exact hw _ _ h
      · split at h
        · exact hw _ _ h
        · split at h
          · exact hw _ _ h
          · split at h
            · cases hr : textF s.data.toList (s.size + 1) (a + 1) [] with
              | error q =>
                rw [hr] at h
                simp only [textV, Except.error.injEq, Prod.mk.injEq] at h
                obtain ⟨rfl, rfl⟩ := h
                exact ⟨by have := text_err _ _ _ _ (by omega) hr; omega, by decide⟩
              | ok q => rw [hr] at h; cases h
            · split at h
              · exact list_err k a (z + 1) deep p c (by omega) (by omega) h
              · exact num_err ha h
theorem list_err {s : ByteArray} : ∀ (k a z deep p : Nat) (c : Int), a < s.size → z ≤ a + 1 → listR s k a z deep = .error (p, c) → p ≤ s.size ∧ c ≠ 0
  | 0, a, z, deep, p, c, ha, hz, h => by
    simp only [listR, Except.error.injEq, Prod.mk.injEq] at h
    obtain ⟨rfl, rfl⟩ := h
    exact ⟨by omega, by decide⟩
  | k + 1, a, z, deep, p, c, ha, hz, h => by
    simp only [listR] at h
    split at h
    · simp only [Except.error.injEq, Prod.mk.injEq] at h
      obtain ⟨rfl, rfl⟩ := h
      exact ⟨by omega, by decide⟩
    · split at h
      · cases h
      · exact elems_err k (a + 1) z deep [] p c (by omega) (by omega) h
theorem elems_err {s : ByteArray} : ∀ (k a z deep : Nat) (acc : List VT) (p : Nat) (c : Int), a ≤ s.size → z ≤ a → elemsR s k a z deep acc = .error (p, c) → p ≤ s.size ∧ c ≠ 0
  | 0, a, z, deep, acc, p, c, ha, hz, h => by
    simp only [elemsR, Except.error.injEq, Prod.mk.injEq] at h
    obtain ⟨rfl, rfl⟩ := h
    exact ⟨ha, by decide⟩
  | k + 1, a, z, deep, acc, p, c, ha, hz, h => by
    have hsz : s.data.toList.length = s.size := by simp
    simp only [elemsR] at h
    split at h
    · rename_i e he
      obtain ⟨p', c'⟩ := e
      simp only [Except.error.injEq, Prod.mk.injEq] at h
      obtain ⟨rfl, rfl⟩ := h
      exact val_err k a z (deep + 1) p' c' ha hz he
    · rename_i t0 a0 z0 hv
      have hb := valR_bd k a z (deep + 1) t0 a0 z0 ha hz hv
      split at h
      · cases h
      · split at h
        · split at h
          · rename_i q hq
            simp only [Except.error.injEq, Prod.mk.injEq] at h
            obtain ⟨rfl, rfl⟩ := h
            exact ⟨by have := word_err _ _ _ (by omega) hq; omega, by decide⟩
          · rename_i q hq
            have h1 := wordR_bd [44, 32] a0 q (by omega) hq
            simp at h1
            exact elems_err k q z0 deep _ p c (by omega) (by omega) h
        · simp only [Except.error.injEq, Prod.mk.injEq] at h
          obtain ⟨rfl, rfl⟩ := h
          exact ⟨by omega, by decide⟩
end
theorem read_err {s : ByteArray} {p : Nat} {c : Int} (h : readR s = .error (p, c)) : p ≤ s.size ∧ c ≠ 0 := by
  unfold readR at h
  split at h
  · rename_i pc hv
    obtain ⟨p', c'⟩ := pc
    simp only [Except.error.injEq, Prod.mk.injEq] at h
    obtain ⟨rfl, rfl⟩ := h
    exact val_err _ _ _ _ _ _ (by omega) (by omega) hv
  · rename_i t0 a' z' hv
    have hb := valR_bd _ _ _ _ _ _ _ (by omega) (by omega) hv
    split at h
    · simp only [Except.error.injEq, Prod.mk.injEq] at h
      obtain ⟨rfl, rfl⟩ := h
      exact ⟨by omega, by decide⟩
    · split at h
      · simp only [Except.error.injEq, Prod.mk.injEq] at h
        obtain ⟨rfl, rfl⟩ := h
        exact ⟨by omega, by decide⟩
      · cases h
/-- A text that was written is read as its value. -/
theorem read_text {p : PT} (hm : mayP p = true) (ho : okP p) : readR ⟨(enc (valOf p)).toArray⟩ = .ok (valOf p) := by
  obtain ⟨h1, h2⟩ := may_size hm
  exact read_enc (by simp) (okV_of p ho) h1 h2
theorem same_text {a b : PT} (ha : mayP a = true) (hb : mayP b = true) (hoa : okP a) (hob : okP b) : (enc (valOf a) = enc (valOf b)) ↔ sameP a b = true := by
  have h3 := F3 a b
  rw [ha, hb] at h3
  simp only [Bool.true_eq_false, and_self, or_false] at h3
  rw [← h3]
  unfold compP
  rw [ha, hb]
  simp only [if_true]
  constructor
  · intro he
    have h1 := read_text ha hoa
    have h2 := read_text hb hob
    rw [he, h2] at h1
    simp only [Except.ok.injEq] at h1
    rw [h1]; exact cmpV_refl _
  · intro he
    rw [cmpV_eq _ _ he]
end
end Go.Proofs.YtkpnnhebfaggeaaDoor
