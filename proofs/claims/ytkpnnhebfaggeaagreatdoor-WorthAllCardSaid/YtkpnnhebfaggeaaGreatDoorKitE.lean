/-
  The document's Read, orders, the opening of the argument, plays: walks by the kit.
  Conditions: none.
-/
import Derived.Test.YtkpnnhebfaggeaaGreatDoorKitD
import Derived.Deep.DeepCutAuto
import Derived.Test.YtkpnnhebfaggeaaGreatDoorRows
import Derived.Lib.LaidU8
import Derived.Lib.LaidTab
import Derived.ProofKit
import Derived.LaidMore
import Derived.OpenShut
import Derived.Stop.Joined
import Derived.ReadAgain
import Derived.Carry
import Derived.WideShapes
import Derived.ChangeMaps5
import Derived.KernelRfl
namespace Go.Proofs.YtkpnnhebfaggeaaGreatDoor
set_option linter.unusedVariables false
set_option linter.unusedSimpArgs false
section
open Go.RowKit
set_option maxRecDepth 100000
def signI (a b : Bool) : Int := if a then -1 else if b then 1 else 0
theorem sign_any (w : World) (a b : Bool) : Calls Tryz.prog 60 #[.bool a, .bool b] w fun e w' => e = .returned (.int .i64 (signI a b)) ∧ w = w' := by
  cases a <;> cases b
  all_goals
    go_enter Tryz.func60, Tryz.ntmps60
    go_wp2_with fail
    go_ret
    exact ⟨rfl, rfl⟩
theorem signI_I (a b : Int) : signI (decide (a < b)) (decide (b < a)) = ordI a b := by unfold signI ordI; simp only [decide_eq_true_eq]
theorem signI_S (a b : ByteArray) : signI (Op.bytesLess a.toList b.toList) (!Op.bytesLess a.toList b.toList && !a.toList == b.toList) = ordS a b := by
  unfold signI ordS
  cases Op.bytesLess a.toList b.toList <;> cases a.toList == b.toList <;> rfl
theorem signI_N (a b : Nat) : signI (decide (a < b)) (decide (b < a)) = ordI a b := by rw [← signI_I]; simp
def OrdFor (p : PT) : Prop := ∀ (q : PT) (w : World) (v u : Value), ArgP w p v → ArgP w q u → Calls Tryz.prog 40 #[v, u] w (RetB w (.int .i64 (ordP p q)))
theorem ch_step (c : Int) (h : (c == 0) = true) {l l' : List PT} {i : Nat} (h1 : i < l.length) (h2 : i < l'.length) : ch c (ordPs (l.drop i) (l'.drop i)) = ch (ordP l[i] l'[i]) (ordPs (l.drop (i + 1)) (l'.drop (i + 1))) := by
  rw [ch_of h, List.drop_eq_getElem_cons h1, List.drop_eq_getElem_cons h2, ordPs]
theorem ordPs_out {l l' : List PT} {i : Nat} (h : l.length ≤ i ∨ l'.length ≤ i) : ordPs (l.drop i) (l'.drop i) = 0 := by
  rcases h with h | h
  · rw [List.drop_eq_nil_iff.2 h]; rfl
  · rw [List.drop_eq_nil_iff.2 h]
    cases l.drop i <;> rfl
theorem stepc11 {W w w' : World} {N : Nat} {a0 a1 a2 a3 a4 a5 a6 a7 : Addr} {u0 u1 v0 v1 v2 v3 v4 v5 v6 v7 : Value} (h : w.cell? ⟨N, 3, none⟩ = some u0 ∧ w.cell? ⟨N + 1, 3, none⟩ = some u1 ∧ w.cell? a0 = some v0 ∧ w.cell? a1 = some v1 ∧ w.cell? a2 = some v2 ∧ w.cell? a3 = some v3 ∧ w.cell? a4 = some v4 ∧ w.cell? a5 = some v5 ∧ w.cell? a6 = some v6 ∧ w.cell? a7 = some v7 ∧ Below W.heap.size W w) (hb : Below w.heap.size w w') :
    w'.cell? ⟨N, 3, none⟩ = some u0 ∧ w'.cell? ⟨N + 1, 3, none⟩ = some u1 ∧ w'.cell? a0 = some v0 ∧ w'.cell? a1 = some v1 ∧ w'.cell? a2 = some v2 ∧ w'.cell? a3 = some v3 ∧ w'.cell? a4 = some v4 ∧ w'.cell? a5 = some v5 ∧ w'.cell? a6 = some v6 ∧ w'.cell? a7 = some v7 ∧ Below W.heap.size W w' := stepc10 h hb
set_option maxHeartbeats 4000000 in
theorem ord_step (k n : Int) (s : ByteArray) (l : List PT) (ih : ∀ p ∈ l, OrdFor p) : OrdFor (.mk k n s l) := by
  intro q w v u hv hu
  obtain ⟨k', n', s', l'⟩ := q
  have g := hv
  have g' := hu
  obtain ⟨_, hln, la, lc, rfl, hla⟩ := g
  obtain ⟨_, hln', la', lc', rfl, hla'⟩ := g'
  have H := Lib.hid ih
  have HA := Lib.hid hla
  have HA' := Lib.hid hla'
  clear hv hu ih hla hla'
  have HC0 := Lib.hid (signI_I k k')
  have HC1 := Lib.hid (signI_I n n')
  have HC2 := Lib.hid (signI_S s s')
  have HR : Hid (ordP (.mk k n s l) (.mk k' n' s' l') = ch (ch (ch (ch (ordI k k') (ordI n n')) (ordS s s')) (ordPs l l')) (ordI l.length l'.length)) := Lib.hid (by rw [ordP])
  generalize ordP (.mk k n s l) (.mk k' n' s' l') = R at HR
  go_enter Tryz.func40, Tryz.ntmps40
  go_upto_if 19 with (go_at_call 60; (with_reducible refine (sign_any _ _ _).mono ?_); rintro e w' ⟨rfl, rfl⟩)
  simp only [HC0.out]
  have hd0 : ((w.alloc (.cells #[.int .i64 k, .int .i64 n, .string s, .slice la l.length lc] 27)).alloc (.cells #[.int .i64 k', .int .i64 n', .string s', .slice la' l'.length lc'] 27)).cell? ⟨w.heap.size + 1, 3, none⟩ = some (.slice la' l'.length lc') := by
    simp
  have hB0 : Below w.heap.size w ((w.alloc (.cells #[.int .i64 k, .int .i64 n, .string s, .slice la l.length lc] 27)).alloc (.cells #[.int .i64 k', .int .i64 n', .string s', .slice la' l'.length lc'] 27)) := (alloc_below w _).alloc (by simp) _
  have hc0 := (CellsP.below (alloc_below _ (.cells #[.int .i64 k', .int .i64 n', .string s', .slice la' l'.length lc'] 27)) (cells_new w (.int .i64 k) (.int .i64 n) (.string s) (.slice la l.length lc) 27) : CellsP _ _ _ _ _ _ _ _ _)
  have hd0 := cells_new (w.alloc (.cells #[.int .i64 k, .int .i64 n, .string s, .slice la l.length lc] 27)) (.int .i64 k') (.int .i64 n') (.string s') (.slice la' l'.length lc') 27
  rw [show (w.alloc (.cells #[.int .i64 k, .int .i64 n, .string s, .slice la l.length lc] 27)).heap.size = w.heap.size + 1 from by simp] at hd0
  generalize ((w.alloc (.cells #[.int .i64 k, .int .i64 n, .string s, .slice la l.length lc] 27)).alloc (.cells #[.int .i64 k', .int .i64 n', .string s', .slice la' l'.length lc'] 27)) = W at hc0 hd0 hB0 ⊢
  obtain ⟨N, hN⟩ : ∃ N, N = w.heap.size := ⟨_, rfl⟩
  simp only [← hN] at hc0 hd0 ⊢
  have HN := Lib.hid hN
  have HB0 := Lib.hid hB0
  obtain ⟨c0, c1, c2, c3⟩ := hc0
  obtain ⟨d0, d1, d2, d3⟩ := hd0
  clear hN hB0 HC0
  obtain ⟨C0, hC0⟩ : ∃ C0, C0 = ordI k k' := ⟨_, rfl⟩
  simp only [← hC0] at HR ⊢
  clear hC0
  go_cut [5] (fun v wx => v = .int .i64 (ch C0 (ordI n n')) ∧ wx = W)
  case first =>
    cases hz : (C0 == 0) with
    | true =>
      have HZ := Lib.hid (ch_of hz (ordI n n'))
      go_wp2_with (go_at_call 60; (with_reducible refine (sign_any _ _ _).mono ?_); rintro e w' ⟨rfl, rfl⟩)
      go_meet
      exact ⟨by rw [HZ.out, ← HC1.out], rfl⟩
    | false =>
      have HZ := Lib.hid (ch_not hz (ordI n n'))
      go_wp2_with fail
      go_meet
      exact ⟨by rw [HZ.out], rfl⟩
  case rest =>
    obtain ⟨rfl, rfl⟩ := hcut
    obtain ⟨C1, hC1⟩ : ∃ C1, C1 = ch C0 (ordI n n') := ⟨_, rfl⟩
    simp only [← hC1] at HR ⊢
    clear hC1 HC1
    go_upto_if 32 with fail
    go_cut [5] (fun v wx => v = .int .i64 (ch C1 (ordS s s')) ∧ wx = wc)
    case first =>
      cases hz : (C1 == 0) with
      | true =>
        have HZ := Lib.hid (ch_of hz (ordS s s'))
        go_wp2_with (go_at_call 60; (with_reducible refine (sign_any _ _ _).mono ?_); rintro e w' ⟨rfl, rfl⟩)
        go_meet
        exact ⟨by rw [HZ.out, ← HC2.out], rfl⟩
      | false =>
        have HZ := Lib.hid (ch_not hz (ordS s s'))
        go_wp2_with fail
        go_meet
        exact ⟨by rw [HZ.out], rfl⟩
    case rest =>
      obtain ⟨rfl, rfl⟩ := hcut
      obtain ⟨C2, hC2⟩ : ∃ C2, C2 = ch C1 (ordS s s') := ⟨_, rfl⟩
      simp only [← hC2] at HR ⊢
      clear hC2 HC2 c0 c1 c2 d0 d1 d2
      have HL := Lib.hid (signI_N l.length l'.length)
      go_wp2_with fail
      go_loopw [5, 6] (fun cv iv wr => ∃ (i : Nat) (c : Int), i ≤ l.length ∧ i ≤ l'.length ∧ iv = .int .i64 i ∧ cv = .int .i64 c ∧ Hid (ch c (ordPs (l.drop i) (l'.drop i)) = ch C2 (ordPs l l')) ∧ Below wc.heap.size wc wr)
        (fun _ i _ => l.length - (intOf i).toNat)
      case atStart => exact ⟨0, C2, by omega, by omega, rfl, rfl, Lib.hid (by simp), Below.refl _ _⟩
      case round =>
        obtain ⟨i, c, hi, hi', rfl, rfl, HC, hB⟩ := hrel
        have e3 := cell_step c3 hB
        have f3 := cell_step d3 hB
        by_cases hlt : i < l.length
        · by_cases hlt' : i < l'.length
          · cases hz : (c == 0) with
            | true =>
              have HS := Lib.hid (ch_step c hz hlt hlt')
              obtain ⟨b', o', rfl, hin⟩ := HA.out (by intro h; subst h; simp at hlt)
              obtain ⟨b'', o'', rfl, hin'⟩ := HA'.out (by intro h; subst h; simp at hlt')
              have hBw := HB0.out.trans (hB.mono HB0.out.size)
              have hp := InPs.get l b' o' i hlt (InPs.below hBw _ _ _ hin)
              have hq := InPs.get l' b'' o'' i hlt' (InPs.below hBw _ _ _ hin')
              rw [Nat.mul_comm] at hp hq
              have HE : Hid (∀ (q : PT) (w : World) (v u : Value), ArgP w l[i] v → ArgP w q u → Calls Tryz.prog 40 #[v, u] w (RetB w (.int .i64 (ordP l[i] q)))) := Lib.hid (H.out l[i] (List.getElem_mem hlt))
              obtain ⟨k1, n1, s1, la1, lc1, l1, e1, ⟨x0, x1, x2, x3⟩, ha1⟩ := arg_of_in hp
              obtain ⟨k2, n2, s2, la2, lc2, l2, e2, ⟨y0, y1, y2, y3⟩, ha2⟩ := arg_of_in hq
              rw [e2] at HS
              rw [e1] at HE HS ha1
              rw [e2] at ha2
              have HX := Lib.hid ha1
              have HY := Lib.hid ha2
              clear ha1 ha2 hp hq hin hin' e1 e2
              have hBd : Below wr.heap.size wr wr.drew := (Below.refl _ _).drew
              go_wp2_with fail
              go_region_held3 (fun w' => w'.cell? ⟨N, 0 + 3, none⟩ = some (.slice (some ⟨b', o', none⟩) l.length lc) ∧ w'.cell? ⟨N + 1, 0 + 3, none⟩ = some (.slice (some ⟨b'', o'', none⟩) l'.length lc') ∧
                  w'.cell? ⟨b', o' + i * 4, none⟩ = some (.int .i64 k1) ∧ w'.cell? ⟨b', o' + i * 4 + 1, none⟩ = some (.int .i64 n1) ∧ w'.cell? ⟨b', o' + i * 4 + 2, none⟩ = some (.string s1) ∧ w'.cell? ⟨b', o' + i * 4 + 3, none⟩ = some (.slice la1 l1.length lc1) ∧
                  w'.cell? ⟨b'', o'' + i * 4, none⟩ = some (.int .i64 k2) ∧ w'.cell? ⟨b'', o'' + i * 4 + 1, none⟩ = some (.int .i64 n2) ∧ w'.cell? ⟨b'', o'' + i * 4 + 2, none⟩ = some (.string s2) ∧ w'.cell? ⟨b'', o'' + i * 4 + 3, none⟩ = some (.slice la2 l2.length lc2) ∧ Below wr.heap.size wr w')
                (first | exact ⟨e3, f3, x0, x1, x2, x3, y0, y1, y2, y3, hBd⟩ | exact stepc11 (w := wr.drew) ⟨e3, f3, x0, x1, x2, x3, y0, y1, y2, y3, hBd⟩ hb | (refine stepc11 ?_ hb; assumption) | assumption)
                (first
                | (go_at_call 40; ((with_reducible refine (HE.out _ _ _ _ (ArgP.below ?_ HX.out) (ArgP.below ?_ HY.out)).mono ?_); (first | assumption | (apply and11; assumption)); (first | assumption | (apply and11; assumption)); rintro e w1 ⟨rfl, hb⟩)))
              rename_i hS
              have hBS := and11 hS
              clear hS
              go_wp2_with fail
              go_roundw
              case rel => exact ⟨i + 1, _, by omega, by omega, by go_num, rfl, Lib.hid (by rw [← HC.out, HS.out]), hB.trans (hBS.mono hB.size)⟩
              case measure => simp [intOf]; omega
            | false =>
              have HCC : Hid (c = ch C2 (ordPs l l')) := Lib.hid (by rw [← HC.out, ch_not hz])
              have HZ := Lib.hid (ch_not hz (ordI l.length l'.length))
              go_wp2_with fail
              go_ret
              exact ⟨ret_int (b := R) (by rw [HR.out, ← HCC.out, HZ.out]), HB0.out.trans (hB.mono HB0.out.size)⟩
          · have HCC : Hid (c = ch C2 (ordPs l l')) := Lib.hid (by rw [← HC.out, ordPs_out (.inr (by omega)), ch_right])
            cases hz : (c == 0) with
            | true =>
              have HZ := Lib.hid (ch_of hz (ordI l.length l'.length))
              go_wp2_with (go_at_call 60; (with_reducible refine (sign_any _ _ _).mono ?_); rintro e w' ⟨rfl, rfl⟩)
              go_ret
              exact ⟨ret_int (b := R) (by rw [HR.out, ← HCC.out, HZ.out, ← HL.out]), HB0.out.trans (hB.mono HB0.out.size)⟩
            | false =>
              have HZ := Lib.hid (ch_not hz (ordI l.length l'.length))
              go_wp2_with fail
              go_ret
              exact ⟨ret_int (b := R) (by rw [HR.out, ← HCC.out, HZ.out]), HB0.out.trans (hB.mono HB0.out.size)⟩
        · have HCC : Hid (c = ch C2 (ordPs l l')) := Lib.hid (by rw [← HC.out, ordPs_out (.inl (by omega)), ch_right])
          cases hz : (c == 0) with
          | true =>
            have HZ := Lib.hid (ch_of hz (ordI l.length l'.length))
            go_wp2_with (go_at_call 60; (with_reducible refine (sign_any _ _ _).mono ?_); rintro e w' ⟨rfl, rfl⟩)
            go_ret
            exact ⟨ret_int (b := R) (by rw [HR.out, ← HCC.out, HZ.out, ← HL.out]), HB0.out.trans (hB.mono HB0.out.size)⟩
          | false =>
            have HZ := Lib.hid (ch_not hz (ordI l.length l'.length))
            go_wp2_with fail
            go_ret
            exact ⟨ret_int (b := R) (by rw [HR.out, ← HCC.out, HZ.out]), HB0.out.trans (hB.mono HB0.out.size)⟩
mutual
theorem order_any : ∀ p : PT, OrdFor p
  | .mk k n s l => ord_step k n s l (order_all l)
theorem order_all : ∀ l : List PT, ∀ p ∈ l, OrdFor p
  | [], p, h => by simp at h
  | q :: r, p, h => by
    rcases List.mem_cons.1 h with h | h
    · rw [h]; exact order_any q
    · exact order_all r p h
end
end

section
open Go.RowKit
set_option maxRecDepth 100000
set_option maxHeartbeats 4000000 in
theorem rcompare_any (p q : PT) (w : World) (v u : Value) (hv : ArgP w p v) (hu : ArgP w q u) : Calls Tryz.prog 21 #[v, u] w (RetB w (.int .i64 (compP p q))) := by
  cases p with
  | mk k n s l =>
  cases q with
  | mk k' n' s' l' =>
    have hv2 := hv
    have hu2 := hu
    obtain ⟨_, _, la, lc, rfl, _⟩ := hv2
    obtain ⟨_, _, la', lc', rfl, _⟩ := hu2
    have HV := Lib.hid hv
    have HU := Lib.hid hu
    clear hv hu
    go_enter Tryz.func21, Tryz.ntmps21
    go_wp2_with fail
    have hc0 := cells_new w (.int .i64 k) (.int .i64 n) (.string s) (.slice la l.length lc) 27
    have hd0 := cells_new (w.alloc (.cells #[.int .i64 k, .int .i64 n, .string s, .slice la l.length lc] 27)) (.int .i64 k') (.int .i64 n') (.string s') (.slice la' l'.length lc') 27
    have hB0 : Below w.heap.size w ((w.alloc (.cells #[.int .i64 k, .int .i64 n, .string s, .slice la l.length lc] 27)).alloc (.cells #[.int .i64 k', .int .i64 n', .string s', .slice la' l'.length lc'] 27)) := (alloc_below w _).alloc (by simp) _
    have hs0 : ((w.alloc (.cells #[.int .i64 k, .int .i64 n, .string s, .slice la l.length lc] 27)).alloc (.cells #[.int .i64 k', .int .i64 n', .string s', .slice la' l'.length lc'] 27)).heap.size = w.heap.size + 2 := by simp
    have hc1 : CellsP ((w.alloc (.cells #[.int .i64 k, .int .i64 n, .string s, .slice la l.length lc] 27)).alloc (.cells #[.int .i64 k', .int .i64 n', .string s', .slice la' l'.length lc'] 27)) w.heap.size 0 k n s la l.length lc := CellsP.below (alloc_below _ _) hc0
    clear hc0
    rw [show (w.alloc (.cells #[.int .i64 k, .int .i64 n, .string s, .slice la l.length lc] 27)).heap.size = w.heap.size + 1 from by simp] at hd0
    generalize ((w.alloc (.cells #[.int .i64 k, .int .i64 n, .string s, .slice la l.length lc] 27)).alloc (.cells #[.int .i64 k', .int .i64 n', .string s', .slice la' l'.length lc'] 27)) = W at hc1 hd0 hB0 hs0 ⊢
    obtain ⟨c0, c1, c2, c3⟩ := hc1
    obtain ⟨d0, d1, d2, d3⟩ := hd0
    obtain ⟨N, hN⟩ : ∃ N, N = w.heap.size := ⟨_, rfl⟩
    simp only [← hN, Nat.zero_add] at c0 c1 c2 c3 d0 d1 d2 d3 hs0 ⊢
    have HN := Lib.hid hN
    have HS := Lib.hid hs0
    clear hN hs0
    have hBd : Below W.heap.size W W.drew := (Below.refl _ _).drew
    go_region_held3 (fun w' => w'.cell? ⟨N, 0, none⟩ = some (.int .i64 k) ∧ w'.cell? ⟨N, 1, none⟩ = some (.int .i64 n) ∧ w'.cell? ⟨N, 2, none⟩ = some (.string s) ∧ w'.cell? ⟨N, 3, none⟩ = some (.slice la l.length lc) ∧
        w'.cell? ⟨N + 1, 0, none⟩ = some (.int .i64 k') ∧ w'.cell? ⟨N + 1, 1, none⟩ = some (.int .i64 n') ∧ w'.cell? ⟨N + 1, 2, none⟩ = some (.string s') ∧ w'.cell? ⟨N + 1, 3, none⟩ = some (.slice la' l'.length lc') ∧ Below W.heap.size W w')
      (first | exact ⟨c0, c1, c2, c3, d0, d1, d2, d3, (Below.refl _ _).drew⟩ | exact step9 (w := W.drew) ⟨c0, c1, c2, c3, d0, d1, d2, d3, hBd⟩ hb | (refine step9 ?_ hb; assumption) | assumption)
      (first
      | (go_at_call 16; ((with_reducible refine (rmay_any _ _ _ (arg_in HV.out hB0 ?_)).mono ?_); (first | assumption | (apply and9; assumption)); rintro e w1 ⟨rfl, hb⟩))
      | (go_at_call 16; ((with_reducible refine (rmay_any _ _ _ (arg_in HU.out hB0 ?_)).mono ?_); (first | assumption | (apply and9; assumption)); rintro e w1 ⟨rfl, hb⟩)))
    rename_i hS
    obtain ⟨e0, e1, e2, e3, f0, f1, f2, f3, hW1⟩ := hS
    have hBw := hB0.trans (hW1.mono hB0.size)
    have H1 := Lib.hid (arg_box HV.out hBw ⟨e0, e1, e2, e3⟩)
    have H2 := Lib.hid (arg_box HU.out hBw ⟨f0, f1, f2, f3⟩)
    have HE := Lib.hid (compP_ord (.mk k n s l) (.mk k' n' s' l'))
    rename_i w1 _
    clear hb
    clear c0 c1 c2 c3 d0 d1 d2 d3 hBd
    cases hp : mayP (.mk k n s l) <;> cases hq : mayP (.mk k' n' s' l')
    · rw [hp, hq] at HE
      clear hp hq
      go_wp2_with fail
      go_ret
      exact ⟨ret_int HE.out.symm, hBw⟩
    · rw [hp, hq] at HE
      clear hp hq
      go_wp2_with fail
      go_ret
      exact ⟨ret_int HE.out.symm, hBw⟩
    · rw [hp, hq] at HE
      clear hp hq
      go_wp2_with fail
      go_ret
      exact ⟨ret_int HE.out.symm, hBw⟩
    · rw [hp, hq] at HE
      clear hp hq
      have HBw := Lib.hid hBw
      clear hBw
      go_wp2_with fail
      refine (order_any _ _ _ _ _ (HV.out.below HBw.out) (HU.out.below HBw.out)).mono ?_
      rintro e w2 ⟨rfl, hb2⟩
      go_wp2_with fail
      go_ret
      exact ⟨ret_int HE.out.symm, HBw.out.trans (hb2.mono HBw.out.size)⟩
set_option maxHeartbeats 4000000 in
theorem rsame_any (p q : PT) (w : World) (v u : Value) (hv : ArgP w p v) (hu : ArgP w q u) : Calls Tryz.prog 20 #[v, u] w (RetB w (.bool (sameP p q))) := by
  cases p with
  | mk k n s l =>
  cases q with
  | mk k' n' s' l' =>
    have hv2 := hv
    have hu2 := hu
    obtain ⟨_, _, la, lc, rfl, _⟩ := hv2
    obtain ⟨_, _, la', lc', rfl, _⟩ := hu2
    have HV := Lib.hid hv
    have HU := Lib.hid hu
    clear hv hu
    have hc0 := cells_new w (.int .i64 k) (.int .i64 n) (.string s) (.slice la l.length lc) 27
    have hd0 := cells_new (w.alloc (.cells #[.int .i64 k, .int .i64 n, .string s, .slice la l.length lc] 27)) (.int .i64 k') (.int .i64 n') (.string s') (.slice la' l'.length lc') 27
    have hB0 : Below w.heap.size w ((w.alloc (.cells #[.int .i64 k, .int .i64 n, .string s, .slice la l.length lc] 27)).alloc (.cells #[.int .i64 k', .int .i64 n', .string s', .slice la' l'.length lc'] 27)) := (alloc_below w _).alloc (by simp) _
    have hs0 : ((w.alloc (.cells #[.int .i64 k, .int .i64 n, .string s, .slice la l.length lc] 27)).alloc (.cells #[.int .i64 k', .int .i64 n', .string s', .slice la' l'.length lc'] 27)).heap.size = w.heap.size + 2 := by simp
    have hc1 : CellsP ((w.alloc (.cells #[.int .i64 k, .int .i64 n, .string s, .slice la l.length lc] 27)).alloc (.cells #[.int .i64 k', .int .i64 n', .string s', .slice la' l'.length lc'] 27)) w.heap.size 0 k n s la l.length lc := CellsP.below (alloc_below _ _) hc0
    clear hc0
    rw [show (w.alloc (.cells #[.int .i64 k, .int .i64 n, .string s, .slice la l.length lc] 27)).heap.size = w.heap.size + 1 from by simp] at hd0
    have HC := Lib.hid hc1
    have HD := Lib.hid hd0
    have HB := Lib.hid hB0
    clear hc1 hd0 hB0 hs0
    have HE := Lib.hid (sameP_ord (.mk k n s l) (.mk k' n' s' l'))
    go_enter Tryz.func20, Tryz.ntmps20
    go_wp2_with fail
    generalize ((w.alloc (.cells #[.int .i64 k, .int .i64 n, .string s, .slice la l.length lc] 27)).alloc (.cells #[.int .i64 k', .int .i64 n', .string s', .slice la' l'.length lc'] 27)) = W at HC HD HB ⊢
    have hcc := HC.out
    have hdd := HD.out
    obtain ⟨c0, c1, c2, c3⟩ := hcc
    obtain ⟨d0, d1, d2, d3⟩ := hdd
    go_wp2_with fail
    clear c0 c1 c2 c3 d0 d1 d2 d3
    refine (rmay_any _ _ _ (HV.out.below HB.out)).mono ?_
    rintro e w1 ⟨rfl, hb1⟩
    have HC1 := Lib.hid (HC.out.below hb1)
    have HD1 := Lib.hid (CellsP.below (la := la') hb1 HD.out)
    have hB1 := HB.out.trans (hb1.mono HB.out.size)
    cases hp : mayP (.mk k n s l)
    · rw [hp] at HE
      clear hp
      go_wp2_with fail
      go_ret
      exact ⟨by rw [HE.out]; rfl, hB1⟩
    · rw [hp] at HE
      clear hp
      have hd := HD1.out
      obtain ⟨d0, d1, d2, d3⟩ := hd
      go_wp2_with fail
      refine (rmay_any _ _ _ (HU.out.below hB1)).mono ?_
      rintro e w2 ⟨rfl, hb2⟩
      have hB2 := hB1.trans (hb2.mono hB1.size)
      have H1 := Lib.hid (arg_box HV.out hB2 (HC1.out.below hb2))
      have H2 := Lib.hid (arg_box HU.out hB2 (CellsP.below (la := la') hb2 HD1.out))
      clear d0 d1 d2 d3
      cases hq : mayP (.mk k' n' s' l')
      · rw [hq] at HE
        clear hq
        go_wp2_with fail
        go_ret
        exact ⟨by rw [HE.out]; rfl, hB2⟩
      · rw [hq] at HE
        clear hq
        have hcc := HC1.out.below hb2
        have hdd := CellsP.below (la := la') hb2 HD1.out
        obtain ⟨c0, c1, c2, c3⟩ := hcc
        obtain ⟨d0, d1, d2, d3⟩ := hdd
        go_wp2_with fail
        clear c0 c1 c2 c3 d0 d1 d2 d3
        refine (order_any _ _ _ _ _ (HV.out.below hB2) (HU.out.below hB2)).mono ?_
        rintro e w3 ⟨rfl, hb3⟩
        go_wp2_with fail
        go_ret
        exact ⟨by rw [HE.out]; rfl, hB2.trans (hb3.mono hB2.size)⟩
end

section
open Go.RowKit
set_option maxRecDepth 100000
set_option maxHeartbeats 2000000 in
theorem same_any (p q : PT) (w : World) (v u : Value) (hv : ArgP w p v) (hu : ArgP w q u) : Calls Tryz.prog 14 #[v, u] w (RetB w (.bool (sameP p q))) := by
  cases p with
  | mk k n s l =>
  cases q with
  | mk k' n' s' l' =>
    have hv2 := hv
    have hu2 := hu
    obtain ⟨_, _, la, lc, rfl, _⟩ := hv2
    obtain ⟨_, _, la', lc', rfl, _⟩ := hu2
    have HV := Lib.hid hv
    have HU := Lib.hid hu
    clear hv hu
    have hc0 := cells_new w (.int .i64 k) (.int .i64 n) (.string s) (.slice la l.length lc) 27
    have hd0 := cells_new (w.alloc (.cells #[.int .i64 k, .int .i64 n, .string s, .slice la l.length lc] 27)) (.int .i64 k') (.int .i64 n') (.string s') (.slice la' l'.length lc') 27
    have hB0 : Below w.heap.size w ((w.alloc (.cells #[.int .i64 k, .int .i64 n, .string s, .slice la l.length lc] 27)).alloc (.cells #[.int .i64 k', .int .i64 n', .string s', .slice la' l'.length lc'] 27)) := (alloc_below w _).alloc (by simp) _
    have hs0 : ((w.alloc (.cells #[.int .i64 k, .int .i64 n, .string s, .slice la l.length lc] 27)).alloc (.cells #[.int .i64 k', .int .i64 n', .string s', .slice la' l'.length lc'] 27)).heap.size = w.heap.size + 2 := by simp
    have hc1 : CellsP ((w.alloc (.cells #[.int .i64 k, .int .i64 n, .string s, .slice la l.length lc] 27)).alloc (.cells #[.int .i64 k', .int .i64 n', .string s', .slice la' l'.length lc'] 27)) w.heap.size 0 k n s la l.length lc := CellsP.below (alloc_below _ _) hc0
    clear hc0
    rw [show (w.alloc (.cells #[.int .i64 k, .int .i64 n, .string s, .slice la l.length lc] 27)).heap.size = w.heap.size + 1 from by simp] at hd0
    have HC := Lib.hid hc1
    have HD := Lib.hid hd0
    have HB := Lib.hid hB0
    clear hc1 hd0 hB0 hs0
    have HE : Hid (sameP (.mk k n s l) (.mk k' n' s' l') = (mayP (.mk k n s l) && (mayP (.mk k' n' s' l') && (cmpV (valOf (.mk k n s l)) (valOf (.mk k' n' s' l')) == 0)))) := Lib.hid rfl
    go_enter Tryz.func14, Tryz.ntmps14
    go_wp2_with fail
    generalize ((w.alloc (.cells #[.int .i64 k, .int .i64 n, .string s, .slice la l.length lc] 27)).alloc (.cells #[.int .i64 k', .int .i64 n', .string s', .slice la' l'.length lc'] 27)) = W at HC HD HB ⊢
    refine (may_any _ _ _ (HV.out.below HB.out)).mono ?_
    rintro e w1 ⟨rfl, hb1⟩
    have HC1 := Lib.hid (HC.out.below hb1)
    have HD1 := Lib.hid (CellsP.below (la := la') hb1 HD.out)
    have hB1 := HB.out.trans (hb1.mono HB.out.size)
    cases hp : mayP (.mk k n s l)
    · rw [hp] at HE
      clear hp
      go_wp2_with fail
      go_ret
      exact ⟨by rw [HE.out]; rfl, hB1⟩
    · rw [hp] at HE
      clear hp
      have hd := HD1.out
      obtain ⟨d0, d1, d2, d3⟩ := hd
      go_wp2_with fail
      refine (may_any _ _ _ (HU.out.below hB1)).mono ?_
      rintro e w2 ⟨rfl, hb2⟩
      have hB2 := hB1.trans (hb2.mono hB1.size)
      have H1 := Lib.hid (arg_box HV.out hB2 (HC1.out.below hb2))
      have H2 := Lib.hid (arg_box HU.out hB2 (CellsP.below (la := la') hb2 HD1.out))
      clear d0 d1 d2 d3
      cases hq : mayP (.mk k' n' s' l')
      · rw [hq] at HE
        clear hq
        go_wp2_with fail
        go_ret
        exact ⟨by rw [HE.out]; rfl, hB2⟩
      · rw [hq] at HE
        clear hq
        go_wp2_with fail
        refine (value_any _ _ _ _ H1.out).mono ?_
        rintro e w3 ⟨x, bs, rfl, hx, hnd, hge, hb3⟩
        have HX := Lib.hid hx
        clear hx hnd hge
        go_wp2_with fail
        refine (value_any _ _ _ _ (InP.below hb3 _ _ _ H2.out)).mono ?_
        rintro e w4 ⟨y, cs, rfl, hy, hnd, hge, hb4⟩
        have HY := Lib.hid hy
        clear hy hnd hge
        go_wp2_with fail
        refine (compare_any _ _ _ _ _ _ _ (RepV.keep _ _ _ (fun g hg => hb4.block g (RepV.lt _ _ _ HX.out g hg)) HX.out) HY.out).mono ?_
        rintro e w5 ⟨rfl, m, rfl⟩
        go_wp2_with fail
        go_ret
        exact ⟨by rw [HE.out]; rfl, ((hB2.trans (hb3.mono hB2.size)).trans (hb4.mono (Nat.le_trans hB2.size hb3.size))).trans ⟨rfl, rfl, rfl, Nat.le_refl _, fun _ _ => rfl⟩⟩
end

section
open Go.RowKit
set_option maxRecDepth 100000
theorem TwPs.get {w : World} : ∀ (l : List PT) (xs : List Value) (bs : List Nat), TwPs w l xs bs → ∀ i (h : i < l.length), ∃ k n s la ln lc b, TwP w l[i] [.int .i64 k, .int .i64 n, .string s, .slice la ln lc] b ∧
    xs[i * 4]? = some (.int .i64 k) ∧ xs[i * 4 + 1]? = some (.int .i64 n) ∧ xs[i * 4 + 2]? = some (.string s) ∧ xs[i * 4 + 3]? = some (.slice la ln lc)
  | p :: r, xs, bs, h, 0, hi => by
    obtain ⟨cs, xr, b, br, rfl, rfl, h1, h2⟩ := h
    obtain ⟨k, n, s, la, ln, lc, rfl⟩ := h1.form
    exact ⟨k, n, s, la, ln, lc, b, h1, by simp, by simp, by simp, by simp⟩
  | p :: r, xs, bs, h, i + 1, hi => by
    obtain ⟨cs, xr, b, br, rfl, rfl, h1, h2⟩ := h
    obtain ⟨k, n, s, la, ln, lc, b', h3, e0, e1, e2, e3⟩ := TwPs.get r xr br h2 i (by simpa using hi)
    have hl := h1.len
    have sh : ∀ j, (cs ++ xr)[(i + 1) * 4 + j]? = xr[i * 4 + j]? := fun j => by
      rw [List.getElem?_append_right (by omega), hl]
      congr 1; omega
    exact ⟨k, n, s, la, ln, lc, b', h3, (sh 0).trans e0, (sh 1).trans e1, (sh 2).trans e2, (sh 3).trans e3⟩
def MkFor (p : PT) : Prop := ∀ (w : World) (cs : List Value) (bs : List Nat), TwP w p cs bs → shortP p → Calls Tryz.prog 39 #[.agg cs.toArray] w (RetB w (.bool true))
set_option maxHeartbeats 2000000 in
theorem mk_nil (k n : Int) (s : ByteArray) (lc : Nat) (w : World) : Calls Tryz.prog 39 #[.agg #[.int .i64 k, .int .i64 n, .string s, .slice none 0 lc]] w (RetB w (.bool true)) := by
  go_enter Tryz.func39, Tryz.ntmps39
  go_wp2_with fail
  go_loopw [4] (fun iv wr => iv = .int .i64 0 ∧ wr = (w.alloc (.cells #[.int .i64 k, .int .i64 n, .string s, .slice none 0 lc] 27))) (fun _ _ => 0)
  case atStart => exact ⟨rfl, rfl⟩
  case round =>
    obtain ⟨rfl, rfl⟩ := hrel
    go_wp2_with fail
    go_ret
    exact ⟨rfl, alloc_below w _⟩
set_option maxHeartbeats 4000000 in
theorem mk_list (k n : Int) (s : ByteArray) (l : List PT) (b' : Nat) (xs : List Value) (bl : List Nat) (w : World) (hl : l.length ≤ 65536) (ih : ∀ p ∈ l, MkFor p) (hsh : shortPs l)
    (hc : ∀ j v, (xs ++ [.int .i64 (-7)])[j]? = some v → w.cell? ⟨b', j, none⟩ = some v) (htw : TwPs w l xs bl) :
    Calls Tryz.prog 39 #[.agg #[.int .i64 k, .int .i64 n, .string s, .slice (some ⟨b', 0, none⟩) l.length (l.length + 1)]] w (RetB w (.bool true)) := by
  have hxl := htw.len
  have hm : w.cell? ⟨b', l.length * 4, none⟩ = some (.int .i64 (-7)) := by
    have := hc (l.length * 4) (.int .i64 (-7)) (by rw [List.getElem?_append_right (by omega), hxl]; simp [Nat.mul_comm])
    exact this
  have hcell := (heapcell (heap_alloc_new w (.cells #[.int .i64 k, .int .i64 n, .string s, .slice (some ⟨b', 0, none⟩) l.length (l.length + 1)] 27)) 3).1
  have hcell' : (w.alloc (.cells #[.int .i64 k, .int .i64 n, .string s, .slice (some ⟨b', 0, none⟩) l.length (l.length + 1)] 27)).cell? ⟨w.heap.size, 3, none⟩ = some (.slice (some ⟨b', 0, none⟩) l.length (l.length + 1)) := hcell
  have hm' := cell_stepA hm (alloc_below w (.cells #[.int .i64 k, .int .i64 n, .string s, .slice (some ⟨b', 0, none⟩) l.length (l.length + 1)] 27))
  have HC := Lib.hid hc
  have HT := Lib.hid htw
  have HI := Lib.hid ih
  have HSH := Lib.hid hsh
  have HB0 := Lib.hid (alloc_below w (.cells #[.int .i64 k, .int .i64 n, .string s, .slice (some ⟨b', 0, none⟩) l.length (l.length + 1)] 27))
  clear hc htw ih hsh hcell hm hxl
  have q1 : ¬ ((l.length : Int) + 1 ≤ (l.length : Int)) := by omega
  have q2 : (l.length : Int) < (l.length : Int) + 1 := by omega
  have q3 : (0 : Int) ≤ (l.length : Int) + 1 := by omega
  have q4 : (0 : Int) ≤ (l.length : Int) := by omega
  go_enter Tryz.func39, Tryz.ntmps39
  go_wp2_with fail
  generalize (w.alloc (.cells #[.int .i64 k, .int .i64 n, .string s, .slice (some ⟨b', 0, none⟩) l.length (l.length + 1)] 27)) = W at hcell' HB0 ⊢
  clear hm'
  go_loopw [4] (fun iv wr => ∃ (i : Nat), i ≤ l.length ∧ iv = .int .i64 i ∧ Hid (Below W.heap.size W wr)) (fun iv _ => l.length - (intOf iv).toNat)
  case atStart => exact ⟨0, by omega, rfl, Lib.hid (Below.refl _ _)⟩
  case round =>
    obtain ⟨i, hi, rfl, hB⟩ := hrel
    by_cases hlt : i < l.length
    · have hcr := cell_stepA hcell' hB.out
      have hBw := HB0.out.trans (hB.out.mono HB0.out.size)
      obtain ⟨k9, n9, s9, la9, ln9, lc9, b9, h9, e0, e1, e2, e3⟩ := TwPs.get l xs bl HT.out i hlt
      have x0 := cell_stepA (HC.out _ _ (left_get e0)) hBw
      have x1 := cell_stepA (HC.out _ _ (left_get e1)) hBw
      have x2 := cell_stepA (HC.out _ _ (left_get e2)) hBw
      have x3 := cell_stepA (HC.out _ _ (left_get e3)) hBw
      have HCALL := Lib.hid (HI.out l[i] (List.getElem_mem hlt) wr _ b9 (TwP.keep _ _ _ (fun g hg => hBw.block g (TwP.lt _ _ _ h9 g hg)) h9) (shortPs_get l i hlt HSH.out))
      clear e0 e1 e2 e3 h9 hBw
      go_wp2_with fail
      refine HCALL.out.mono ?_
      rintro e w1 ⟨rfl, hb1⟩
      have HB1 := Lib.hid (hB.out.trans (hb1.mono hB.out.size))
      clear hb1
      go_wp2_with fail
      go_roundw
      case rel => exact ⟨i + 1, by omega, by go_num, HB1⟩
      case measure => simp [intOf]; omega
    · obtain rfl : i = l.length := by omega
      go_wp2_with fail
      go_ret
      exact ⟨rfl, HB0.out.trans (hB.out.mono HB0.out.size)⟩
mutual
theorem mk_any : ∀ p : PT, MkFor p
  | .mk k n s l => fun w cs bs h hsh => by
    simp only [TwP] at h
    obtain ⟨_, _, la, lc, rfl, h4⟩ := h
    rcases h4 with ⟨rfl, rfl, _⟩ | ⟨b', xs, bl, rfl, rfl, h7, h8, _⟩
    · exact mk_nil k n s lc w
    · exact mk_list k n s l b' xs bl w hsh.1 (mk_anys l) hsh.2 h7 h8
theorem mk_anys : ∀ l : List PT, ∀ p ∈ l, MkFor p
  | [], p, h => by simp at h
  | q :: r, p, h => by
    rcases List.mem_cons.1 h with h | h
    · rw [h]; exact mk_any q
    · exact mk_anys r p h
end
set_option maxHeartbeats 2000000 in
/-- 'Kept': the twin is what it was, its marks too. -/
theorem kept_any (p : PT) (w : World) (cs : List Value) (bs : List Nat) (u : Value) (h : TwP w p cs bs) (hu : ArgP w p u) (hsh : shortP p) : Calls Tryz.prog 19 #[.agg cs.toArray, u] w (RetB w (.bool true)) := by
  cases p with
  | mk k0 n0 s0 l0 =>
  have g := hu
  obtain ⟨_, _, la0, lc0, rfl, _⟩ := g
  have ha := h.arg
  obtain ⟨k, n, s, la, ln, lc, rfl⟩ := h.form
  have hT := two_new w (.int .i64 k) (.int .i64 n) (.string s) (.slice la ln lc) (.int .i64 k0) (.int .i64 n0) (.string s0) (.slice la0 l0.length lc0) 27 27
  have HA := Lib.hid ha
  have HU := Lib.hid hu
  have HH := Lib.hid h
  have HSH := Lib.hid hsh
  clear ha hu h hsh
  go_enter Tryz.func19, Tryz.ntmps19
  go_wp2_with fail
  generalize ((w.alloc (.cells #[.int .i64 k, .int .i64 n, .string s, .slice la ln lc] 27)).alloc (.cells #[.int .i64 k0, .int .i64 n0, .string s0, .slice la0 l0.length lc0] 27)) = W at hT ⊢
  obtain ⟨h1, h2, hB, hs⟩ := hT
  have HB := Lib.hid hB
  refine (eq_any (.mk k0 n0 s0 l0) W _ _ (HA.out.below hB) (HU.out.below hB)).mono ?_
  rintro e w1 ⟨rfl, hb1⟩
  have hlt : w.heap.size < W.heap.size := by omega
  obtain ⟨N, hN⟩ : ∃ N, N = w.heap.size := ⟨_, rfl⟩
  rw [← hN] at h1 hlt ⊢
  have h1' := (hb1.block N hlt).trans h1
  obtain ⟨p0, _⟩ := heapcell h1' 0
  obtain ⟨p1, _⟩ := heapcell h1' 1
  obtain ⟨p2, _⟩ := heapcell h1' 2
  obtain ⟨p3, _⟩ := heapcell h1' 3
  have HB1 := Lib.hid (hB.trans (hb1.mono hB.size))
  clear h1 h2 h1' hB hb1 hN hlt hs
  go_wp2_with fail
  refine (mk_any (.mk k0 n0 s0 l0) w1 [.int .i64 k, .int .i64 n, .string s, .slice la ln lc] bs (TwP.keep _ _ _ (fun g hg => HB1.out.block g (TwP.lt _ _ _ HH.out g hg)) HH.out) HSH.out).mono ?_
  rintro e w2 ⟨rfl, hb2⟩
  have HB2 := Lib.hid (HB1.out.trans (hb2.mono HB1.out.size))
  clear hb2
  go_wp2_with fail
  go_ret
  exact ⟨rfl, HB2.out⟩
end

section
open Go.ChangeShapes Go.WideShapes Go.ChangeAt Go.RowKit
set_option maxRecDepth 100000
theorem own : ownKnob Tryz.prog.godebug = none := by kernel_rfl
abbrev laid5 {H : Type} : List (String × DataW H) := [("math/bits.deBruijn32tab", Rows.laid_math_bits_deBruijn32tab), ("math/bits.deBruijn64tab", Rows.laid_math_bits_deBruijn64tab), ("internal/strconv.uint64pow10", Rows.laid_internal_strconv_uint64pow10), ("strconv.ErrRange", Rows.laid_strconv_ErrRange), ("strconv.ErrSyntax", Rows.laid_strconv_ErrSyntax)]
theorem door_met (os : Os) (args : Array Value) : laidMetH Tryz.prog laid5 ((World.doorLaid Tryz.prog 400 os).forCall (fun _ _ => 0) ⟨#[], args, []⟩).memory :=
  laidMetH_of_parts3 (fuel := 8) (laidMet_of_run' 8 (by kernel_rfl) (by kernel_rfl)) (by kernel_rfl) (by kernel_rfl)
theorem tPow : (Tryz.prog.globals[0]?).map (·.type) = some 133 := by kernel_rfl
theorem tSyn : (Tryz.prog.globals[1]?).map (·.type) = some 92 := by kernel_rfl
theorem tRan : (Tryz.prog.globals[2]?).map (·.type) = some 92 := by kernel_rfl
theorem g_bits64 : Tryz.prog.globalNamed "math/bits.deBruijn64tab" = some 4 := by kernel_rfl
theorem iface_of_trod {w : World} {fuel : Nat} {t : TypeId} {ms : Array (String × TypeId)} {cs : List Value} {nm : String} {d : DataW Unit} {p : List MemPlace} (ht : Tryz.prog.underlying t = some (.interface ms))
    (h : DataW.trod (fun _ => ()) Tryz.prog w 0 (fun _ => true) false fuel t cs = some (.iface nm d, p)) : ∃ u v, cs = [.iface u v] := by
  cases fuel with
  | zero => simp [DataW.trod] at h
  | succ n =>
    unfold DataW.trod at h
    rw [ht] at h
    split at h <;> simp_all
theorem tabs_of_laid {W : World} (h : laidMetH Tryz.prog laid5 W) : Tabs W ∧ 5 ≤ W.heap.size := by
  rw [MakeChecks.laidMetH_plain _ _ _ (by kernel_rfl)] at h
  obtain ⟨g0, t0, cs0, f0, p0, e0, e0', v0, r0⟩ := Lib.laidMet.reads h (n := "internal/strconv.uint64pow10") (.tail _ (.tail _ (.head _)))
  obtain ⟨g1, t1, cs1, f1, p1, e1, e1', v1, r1⟩ := Lib.laidMet.reads h (n := "strconv.ErrSyntax") (.tail _ (.tail _ (.tail _ (.tail _ (.head _)))))
  obtain ⟨g2, t2, cs2, f2, p2, e2, e2', v2, r2⟩ := Lib.laidMet.reads h (n := "strconv.ErrRange") (.tail _ (.tail _ (.tail _ (.head _))))
  obtain ⟨g4, t4, cs4, f4, p4, e4, e4', v4, r4⟩ := Lib.laidMet.reads h (n := "math/bits.deBruijn64tab") (.tail _ (.head _))
  obtain rfl := Option.some.inj (g_pow.symm.trans e0)
  obtain rfl := Option.some.inj (g_syn.symm.trans e1)
  obtain rfl := Option.some.inj (g_ran.symm.trans e2)
  obtain rfl := Option.some.inj (g_bits64.symm.trans e4)
  obtain rfl := Option.some.inj (tPow.symm.trans e0')
  obtain rfl := Option.some.inj (tSyn.symm.trans e1')
  obtain rfl := Option.some.inj (tRan.symm.trans e2')
  refine ⟨⟨?_, ?_, ?_⟩, ?_⟩
  · have := Lib.cells_of_tab (P := Tryz.prog) (zs := Lib.pow10Tab) (k := .u64) Tryz.underlying133 Tryz.underlying120 (by kernel_rfl) (by kernel_rfl) r0
    unfold Lib.TabIs
    rw [v0, ← this]
  · obtain ⟨u, v, hc⟩ := iface_of_trod Tryz.underlying92 r1
    refine ⟨u, v, ?_⟩
    rw [v1, ← Array.toArray_toList (xs := cs1), hc]
  · obtain ⟨u, v, hc⟩ := iface_of_trod Tryz.underlying92 r2
    refine ⟨u, v, ?_⟩
    rw [v2, ← Array.toArray_toList (xs := cs2), hc]
  · have := v4
    unfold World.var? at this
    rw [g_bits64] at this
    simp only [Option.bind_some] at this
    rcases Nat.lt_or_ge 4 W.heap.size with h' | h'
    · exact h'
    · simp [Array.getElem?_eq_none h'] at this
end

section
open Go.ChangeShapes Go.WideShapes Go.ChangeAt Go.RowKit
set_option maxRecDepth 100000
section
variable {H : Type} {enc : TypeId × Value → H} {P : Program}
theorem post_below {f : Func} {s : ChangeSpec} {apart fresh handsOn again : Bool} {W W' : World} {args : Array Value} {v : Value} {ds gs : List (DataW H)} {before pa pv : List MemPlace}
    (hW : DataW.Whole enc P f.params.toList s.vars apart W args.toList ds gs before)
    (hres : ∀ (b : Nat) (sp : Nat → Bool) (hd : Bool), DataW.TrodAll enc P W' b sp hd f.resultTypes.toList (v.resultList f.resultTypes.size) (s.fn H (ds ++ gs)).results [])
    (hargs : ∀ sp : Nat → Bool, (∀ p ∈ before, sp p.block = true) → DataW.TrodAll enc P W' 0 sp true f.params.toList args.toList (s.fn H (ds ++ gs)).args pa)
    (hvars : ∀ sp : Nat → Bool, (∀ p ∈ before, sp p.block = true) → DataW.TrodVars enc P W' sp s.vars (s.fn H (ds ++ gs)).vars pv)
    (hps : before = pa ++ pv) (hb : Below W.heap.size W W')
    (hok : ∀ (j : Nat) (t : TypeId) (r : Value), f.resultTypes[j]? = some t → (v.resultList f.resultTypes.size)[j]? = some r → Value.okWide P W' .any 0 t r) :
    s.post enc P f apart fresh handsOn again W args v W' := by
  have hlt : ∀ p ∈ before, p.block < W.heap.size := fun p hp => hW.lt p hp
  have hold : ∀ p ∈ before, (fun b => decide (b < W.heap.size)) p.block = true := fun p hp => by simpa using hlt p hp
  refine ⟨ds, gs, before, [], pa, pv, hW, hres _ _ _, hargs _ hold, hvars _ hold, World.keptBut_mono (fun p hp => ⟨hp, ?_⟩) (hb.frame (· ∈ before)), fun _ => ?_⟩
  · rw [hps, List.mem_append] at hp
    exact Or.inr hp
  · obtain ⟨_, _, _, _, _, hz, hn⟩ := hW
    refine ⟨hok, _, _, ([] ++ pa) ++ pv, ⟨[] ++ pa, pv, trodAll_append (hargs _ (fun _ _ => rfl)) (hres _ _ _), hvars _ (fun _ _ => rfl), rfl, ?_, ?_⟩, ?_⟩
    · intro b off hp
      have hin : MemPlace.cell b off ∈ before := by rw [hps]; simpa using hp
      rw [hb.frozen (hlt _ hin)]
      exact hz b off hin
    · intro ha
      have := hn ha
      rw [hps] at this
      simpa using this
    · intro p hp _
      rw [hps]
      simpa using hp
/-- An argument of the plain type: the value's form, the plain tree. -/
theorem open_arg {W : World} {base : Nat} {v : Value} {d : DataW H} {p : List MemPlace} (hv : Value.okWide Tryz.prog W .any base 27 v) (h : DataW.Trod enc Tryz.prog W 0 (fun _ => true) true 27 v d p) (hw : ∀ n ∈ d.weights Tryz.prog 27, n ≤ reachBytes) :
    ∃ t : PT, ArgP W t v ∧ okP t := by
  unfold Value.okWide at hv
  rw [Tryz.underlying27] at hv
  obtain ⟨cs, rfl, _, _⟩ := hv
  obtain ⟨fuel, hf⟩ := h
  obtain ⟨t, ht, hok⟩ := open_pt fuel (Nat.le_refl _) hf hw
  refine ⟨t, ?_, hok⟩
  cases t with
  | mk k n s l =>
    obtain ⟨h1, h2, la, lc, h3, h4⟩ := ht
    refine ⟨h1, h2, la, lc, ?_, h4⟩
    have h3' : cs.toList = [.int .i64 k, .int .i64 n, .string s, .slice la l.length lc] := h3
    rw [← Array.toArray_toList (xs := cs), h3']
end
theorem weights_at {H : Type} {ts : List TypeId} {ds : List (DataW H)} (h : (DataW.weightsEach Tryz.prog ts ds).all (· ≤ reachBytes) = true) {j : Nat} {t : TypeId} {d : DataW H} (ht : ts[j]? = some t) (hd : ds[j]? = some d) : ∀ n ∈ d.weights Tryz.prog t, n ≤ reachBytes :=
  fun n hn => by simpa using List.all_eq_true.1 h _ (DataW.weights_mem_each ht hd n hn)
theorem kidsT : Kids Tryz.prog (· < Tryz.prog.types.size) := kids_rows (by kernel_rfl) (by kernel_rfl)
theorem fullT : ∀ t e, t < Tryz.prog.types.size → Tryz.prog.underlying t = some (.slice e) → 0 < Tryz.prog.cellsOf e := slices_full_of Tryz.prog (by kernel_rfl)
section
variable {H : Type} {enc : TypeId × Value → H}
theorem trodAll_below {W W' : World} (hb : Below W.heap.size W W') : ∀ {ts : List TypeId} {vs : List Value} {ds : List (DataW H)} {ps : List MemPlace}, DataW.TrodAll enc Tryz.prog W 0 (fun _ => true) true ts vs ds ps → (∀ p ∈ ps, p.block < W.heap.size) → DataW.TrodAll enc Tryz.prog W' 0 (fun _ => true) true ts vs ds ps
  | [], [], [], _, h, _ => h
  | t :: ts, v :: vs, d :: ds, ps, ⟨p, q, ⟨n, hn⟩, h2, e⟩, hs => ⟨p, q, ⟨n, DataW.trod_carry n _ _ _ hn (fun x hx => hb.same (hs x (by rw [e]; exact List.mem_append_left _ hx)))⟩, trodAll_below hb h2 (fun x hx => hs x (by rw [e]; exact List.mem_append_right _ hx)), e⟩
end
end

section
open Go.ChangeShapes Go.WideShapes Go.ChangeAt Go.RowKit
set_option maxRecDepth 100000
section
variable {H : Type} {enc : TypeId × Value → H} {W : World} {spare : Nat → Bool} {held : Bool}
theorem open_sl {fuel : Nat} {cs : List Value} {x : DataW H × List MemPlace} (h3 : DataW.trod enc Tryz.prog W 0 spare held fuel 25 cs = some x) (hw : ∀ n ∈ x.1.weights Tryz.prog 25, n ≤ reachBytes) :
    ∃ l : List PT, l.length ≤ 4398046511104 ∧ okPs l ∧ ∃ la lc, cs = [.slice la l.length lc] ∧ (l ≠ [] → ∃ b' o', la = some ⟨b', o', none⟩ ∧ InPs W b' o' l) := by
  rcases DataW.trod_slice Tryz.underlying25 h3 with ⟨e3, rfl⟩ | ⟨a, len, cap, elems, rest, n1, rfl, e3, rfl, hb1, hlc, hcm, hel2, hels, _, _⟩
  · subst e3
    exact ⟨[], by simp, trivial, none, 0, rfl, by simp⟩
  · subst e3
    have hwl : ∀ z ∈ (len + rest.length) * 56 :: DataW.weightsAll Tryz.prog 27 (elems.map (·.1)), z ≤ reachBytes := by
      intro z hz
      refine hw z ?_
      simp only [DataW.weights, Tryz.underlying25, bytes24, List.length_map, List.mem_append, List.mem_cons, hel2] at hz ⊢
      rcases hz with hz | hz
      · exact .inl hz
      · exact .inr (.inl hz)
    have hln : len ≤ 4398046511104 := by
      have := hwl ((len + rest.length) * 56) (by simp)
      simp only [reachBytes] at this
      omega
    have hea : ∀ i, i < len → ∃ p : PT, (W.cells? 0 (a.add (i * 4)) 4 ≠ none ∧ ∀ cs, W.cells? 0 (a.add (i * 4)) 4 = some cs → CsP W p cs) ∧ okP p := by
      intro i hi
      have h4 := hels i hi
      rw [cells24] at h4
      have hi' : i < elems.length := by omega
      rw [List.getElem?_eq_getElem hi'] at h4
      cases hc : W.cells? 0 (a.add (i * 4)) 4 with
      | none => rw [hc] at h4; simp at h4
      | some cs =>
        rw [hc] at h4
        simp only [Option.bind_some] at h4
        obtain ⟨p, hp1, hp2⟩ := open_pt n1 (Nat.le_refl _) h4 (fun z hz => hwl z (List.mem_cons_of_mem _ (weights_mem_all (List.mem_map_of_mem (List.getElem_mem hi')) hz)))
        exact ⟨p, ⟨by simp, fun cs' h => by obtain rfl := Option.some.inj h; exact hp1⟩, hp2⟩
    obtain ⟨l, hl, hq⟩ := choose_list len hea
    refine ⟨l, by omega, okPs_of l fun i hi => (hq i hi).2, some a, cap, by rw [hl], fun hne => ?_⟩
    have hpos : 0 < l.length := List.length_pos_iff.2 hne
    obtain ⟨⟨hsome, _⟩, _⟩ := hq 0 hpos
    have hsp : a.spot = none := by
      cases hc : W.cells? 0 (a.add (0 * 4)) 4 with
      | none => exact absurd hc hsome
      | some cs =>
        unfold World.cells? at hc
        rw [if_pos (Nat.zero_le _)] at hc
        simp only [show List.range 4 = [0, 1, 2, 3] from by decide, List.mapM_cons, Option.bind_eq_bind, Option.bind_eq_some_iff] at hc
        obtain ⟨c0, h0, _⟩ := hc
        have : (a.add (0 * 4)).add 0 = a := by simp [Addr.add]
        rw [this] at h0
        exact World.cell?_spot h0
    obtain ⟨b', o', sp⟩ := a
    obtain rfl : sp = none := hsp
    refine ⟨b', o', rfl, inPs_of l o' fun i hi => ?_⟩
    obtain ⟨⟨hsome, hcs⟩, _⟩ := hq i hi
    have ea : (⟨b', o', none⟩ : Addr).add (i * 4) = ⟨b', o' + 4 * i, none⟩ := by rw [Go.WideShapes.add_plain, Nat.mul_comm]
    rw [ea] at hsome hcs
    cases hc : W.cells? 0 ⟨b', o' + 4 * i, none⟩ 4 with
    | none => exact absurd hc hsome
    | some cs => exact inP_of hc (hcs cs hc)
end
section
variable {H : Type} {enc : TypeId × Value → H}
/-- An argument of the slice type. -/
theorem open_slarg {W : World} {base : Nat} {v : Value} {d : DataW H} {p : List MemPlace} (hv : Value.okWide Tryz.prog W .any base 25 v) (h : DataW.Trod enc Tryz.prog W 0 (fun _ => true) true 25 v d p) (hw : ∀ n ∈ d.weights Tryz.prog 25, n ≤ reachBytes) :
    ∃ l : List PT, SlP W l v ∧ okPs l := by
  obtain ⟨a, len, cap, rfl⟩ := okWide_slice Tryz.underlying25 hv
  obtain ⟨fuel, hf⟩ := h
  obtain ⟨l, h1, h2, la, lc, h3, h4⟩ := open_sl hf hw
  have h3' : [Value.slice a len cap] = [.slice la l.length lc] := h3
  simp only [List.cons.injEq, and_true] at h3'
  exact ⟨l, ⟨h1, la, lc, h3', h4⟩, h2⟩
/-- An argument that is a string. -/
theorem open_strarg {W : World} {base : Nat} {v : Value} {d : DataW H} {p : List MemPlace} (hv : Value.okWide Tryz.prog W .any base 9 v) (h : DataW.Trod enc Tryz.prog W 0 (fun _ => true) true 9 v d p) (_ : ∀ n ∈ d.weights Tryz.prog 9, n ≤ reachBytes) :
    ∃ s : ByteArray, v = .string s ∧ s.size ≤ 9223372036854775807 := by
  obtain ⟨s, h1, _, _, h2⟩ := Go.ChangeMaps.open_string Tryz.underlying9 hv h
  exact ⟨s, h1, h2⟩
end
end

section
open Go.ChangeShapes Go.WideShapes Go.ChangeAt Go.RowKit
set_option maxRecDepth 100000
/-- A call of the law: its kind, two plain values, a list of them, a string. -/
structure OT where
  kind : Int
  a : PT
  b : PT
  l : List PT
  s : ByteArray
/-- It is of sizes that may be. -/
def okO (x : OT) : Prop := okP x.a ∧ okP x.b ∧ okPs x.l ∧ x.s.size ≤ 140737488355328
/-- A call's cells. -/
def CsO (w : World) (x : OT) (cs : List Value) : Prop := ∃ ca cb v, cs = .int .i64 x.kind :: (ca ++ cb ++ [v, .string x.s]) ∧ CsP w x.a ca ∧ CsP w x.b cb ∧ SlP w x.l v
/-- A call lies in memory. -/
def InO (w : World) (b o : Nat) (x : OT) : Prop := w.cell? ⟨b, o, none⟩ = some (.int .i64 x.kind) ∧ InP w b (o + 1) x.a ∧ InP w b (o + 5) x.b ∧ (∃ v, w.cell? ⟨b, o + 9, none⟩ = some v ∧ SlP w x.l v) ∧ w.cell? ⟨b, o + 10, none⟩ = some (.string x.s)
def InOs (w : World) (b o : Nat) : List OT → Prop
  | [] => True
  | x :: r => InO w b o x ∧ InOs w b (o + 11) r
theorem InO.below {w w' : World} (hb : Below w.heap.size w w') {b o : Nat} {x : OT} (h : InO w b o x) : InO w' b o x := by
  obtain ⟨h1, h2, h3, ⟨v, h4, h5⟩, h6⟩ := h
  exact ⟨cell_stepA h1 hb, InP.below hb _ _ _ h2, InP.below hb _ _ _ h3, ⟨v, cell_stepA h4 hb, h5.below hb⟩, cell_stepA h6 hb⟩
theorem InOs.below {w w' : World} (hb : Below w.heap.size w w') {b : Nat} : ∀ {l : List OT} {o : Nat}, InOs w b o l → InOs w' b o l
  | [], _, _ => trivial
  | _ :: _, _, h => ⟨h.1.below hb, InOs.below hb h.2⟩
theorem InOs.get {w : World} : ∀ (l : List OT) (b o i : Nat) (h : i < l.length), InOs w b o l → InO w b (o + 11 * i) l[i]
  | x :: r, b, o, 0, h, hh => hh.1
  | x :: r, b, o, i + 1, h, hh => by
    have := InOs.get r b (o + 11) i (by simpa using h) hh.2
    simpa [Nat.mul_add, Nat.add_assoc, Nat.add_comm 11] using this
/-- A list of calls, as a slice tells of it. -/
def SlO (w : World) (l : List OT) (v : Value) : Prop := l.length ≤ 4398046511104 ∧ (∀ x ∈ l, okO x) ∧ ∃ la lc, v = .slice la l.length lc ∧ (l ≠ [] → ∃ b' o', la = some ⟨b', o', none⟩ ∧ InOs w b' o' l)
theorem inOs_of {w : World} {b : Nat} : ∀ (l : List OT) (o : Nat), (∀ i (h : i < l.length), InO w b (o + 11 * i) l[i]) → InOs w b o l
  | [], _, _ => trivial
  | p :: r, o, h => by
    refine ⟨h 0 (by simp), inOs_of r (o + 11) fun i hi => ?_⟩
    have := h (i + 1) (by simpa using hi)
    simpa [Nat.mul_add, Nat.add_assoc, Nat.add_comm 11] using this
theorem cells11_of {w : World} {b o : Nat} {cs : List Value} (h : w.cells? 0 ⟨b, o, none⟩ 11 = some cs) : cs.length = 11 ∧ ∀ j v, cs[j]? = some v → w.cell? ⟨b, o + j, none⟩ = some v := by
  unfold World.cells? at h
  rw [if_pos (Nat.zero_le _)] at h
  have e : ∀ j, (⟨b, o, none⟩ : Addr).add j = ⟨b, o + j, none⟩ := fun j => Go.WideShapes.add_plain ..
  simp only [e, show List.range 11 = [0, 1, 2, 3, 4, 5, 6, 7, 8, 9, 10] from by decide, List.mapM_cons, List.mapM_nil, Option.bind_eq_bind, Option.bind_eq_some_iff, Option.pure_def, Option.some.injEq] at h
  obtain ⟨c0, h0, _, ⟨c1, h1, _, ⟨c2, h2, _, ⟨c3, h3, _, ⟨c4, h4, _, ⟨c5, h5, _, ⟨c6, h6, _, ⟨c7, h7, _, ⟨c8, h8, _, ⟨c9, h9, _, ⟨c10, h10, _, rfl, rfl⟩, rfl⟩, rfl⟩, rfl⟩, rfl⟩, rfl⟩, rfl⟩, rfl⟩, rfl⟩, rfl⟩, rfl⟩ := h
  refine ⟨rfl, fun j v hv => ?_⟩
  match j, hv with
  | 0, hv => obtain rfl := Option.some.inj hv; exact h0
  | 1, hv => obtain rfl := Option.some.inj hv; exact h1
  | 2, hv => obtain rfl := Option.some.inj hv; exact h2
  | 3, hv => obtain rfl := Option.some.inj hv; exact h3
  | 4, hv => obtain rfl := Option.some.inj hv; exact h4
  | 5, hv => obtain rfl := Option.some.inj hv; exact h5
  | 6, hv => obtain rfl := Option.some.inj hv; exact h6
  | 7, hv => obtain rfl := Option.some.inj hv; exact h7
  | 8, hv => obtain rfl := Option.some.inj hv; exact h8
  | 9, hv => obtain rfl := Option.some.inj hv; exact h9
  | 10, hv => obtain rfl := Option.some.inj hv; exact h10
theorem csP_cells {w : World} {p : PT} {cs : List Value} (h : CsP w p cs) : ∃ k n s la ln lc, cs = [.int .i64 k, .int .i64 n, .string s, .slice la ln lc] := by
  cases p with
  | mk k n s l => obtain ⟨_, _, la, lc, e, _⟩ := h; exact ⟨k, n, s, la, l.length, lc, e⟩
theorem inP_cs {w : World} {b o : Nat} {p : PT} {c0 c1 c2 c3 : Value} (hp : CsP w p [c0, c1, c2, c3]) (h0 : w.cell? ⟨b, o, none⟩ = some c0) (h1 : w.cell? ⟨b, o + 1, none⟩ = some c1) (h2 : w.cell? ⟨b, o + 2, none⟩ = some c2) (h3 : w.cell? ⟨b, o + 3, none⟩ = some c3) : InP w b o p := by
  cases p with
  | mk k n s l =>
    obtain ⟨e1, e2, la, lc, e3, e4⟩ := hp
    simp only [List.cons.injEq, and_true] at e3
    obtain ⟨rfl, rfl, rfl, rfl⟩ := e3
    exact ⟨e1, e2, la, lc, ⟨h0, h1, h2, h3⟩, e4⟩
theorem inO_of {w : World} {b o : Nat} {x : OT} {cs : List Value} (h : w.cells? 0 ⟨b, o, none⟩ 11 = some cs) (hx : CsO w x cs) : InO w b o x := by
  obtain ⟨_, hc⟩ := cells11_of h
  obtain ⟨ca, cb, v, rfl, ha, hb, hv⟩ := hx
  obtain ⟨k1, n1, s1, la1, ln1, lc1, rfl⟩ := csP_cells ha
  obtain ⟨k2, n2, s2, la2, ln2, lc2, rfl⟩ := csP_cells hb
  exact ⟨hc 0 _ rfl, inP_cs ha (hc 1 _ rfl) (hc 2 _ rfl) (hc 3 _ rfl) (hc 4 _ rfl), inP_cs hb (hc 5 _ rfl) (hc 6 _ rfl) (hc 7 _ rfl) (hc 8 _ rfl), ⟨v, hc 9 _ rfl, hv⟩, hc 10 _ rfl⟩
theorem cells29 : Tryz.prog.cellsOf 29 = 11 := by kernel_rfl
theorem bytes29 : Tryz.prog.bytesOf 29 = 160 := by kernel_rfl
theorem cells27 : Tryz.prog.cellsOf 27 = 4 := by kernel_rfl
theorem cells25 : Tryz.prog.cellsOf 25 = 1 := by kernel_rfl
section
variable {H : Type} {enc : TypeId × Value → H} {W : World} {spare : Nat → Bool} {held : Bool}
theorem open_op {fuel : Nat} {cs : List Value} {x : DataW H × List MemPlace} (h : DataW.trod enc Tryz.prog W 0 spare held fuel 29 cs = some x) (hw : ∀ n ∈ x.1.weights Tryz.prog 29, n ≤ reachBytes) : ∃ o : OT, CsO W o cs ∧ okO o := by
  obtain ⟨xs, n, rfl, rfl, hcl, hxl, hel⟩ := DataW.trod_struct Tryz.underlying29 h
  rw [cells29] at hcl
  match cs, hcl with
  | [c0, c1, c2, c3, c4, c5, c6, c7, c8, c9, c10], _ =>
  match xs, hxl with
  | [x0, x1, x2, x3, x4], _ =>
  have h0 : DataW.trod enc Tryz.prog W 0 spare held n 3 (([c0, c1, c2, c3, c4, c5, c6, c7, c8, c9, c10].drop 0).take (Tryz.prog.cellsOf 3)) = some x0 := hel 0 _ rfl
  have h1 : DataW.trod enc Tryz.prog W 0 spare held n 27 (([c0, c1, c2, c3, c4, c5, c6, c7, c8, c9, c10].drop 1).take (Tryz.prog.cellsOf 27)) = some x1 := hel 1 _ rfl
  have h2 : DataW.trod enc Tryz.prog W 0 spare held n 27 (([c0, c1, c2, c3, c4, c5, c6, c7, c8, c9, c10].drop 5).take (Tryz.prog.cellsOf 27)) = some x2 := hel 2 _ rfl
  have h3 : DataW.trod enc Tryz.prog W 0 spare held n 25 (([c0, c1, c2, c3, c4, c5, c6, c7, c8, c9, c10].drop 9).take (Tryz.prog.cellsOf 25)) = some x3 := hel 3 _ rfl
  have h4 : DataW.trod enc Tryz.prog W 0 spare held n 9 (([c0, c1, c2, c3, c4, c5, c6, c7, c8, c9, c10].drop 10).take (Tryz.prog.cellsOf 9)) = some x4 := hel 4 _ rfl
  rw [cells3'] at h0
  rw [cells27] at h1 h2
  rw [cells25] at h3
  rw [cells9'] at h4
  simp only [List.drop_zero, List.drop_succ_cons, List.take_succ_cons, List.take_zero] at h0 h1 h2 h3 h4
  obtain ⟨k, e0, rfl, w0⟩ := DataW.trod_int Tryz.underlying3 h0
  obtain ⟨s, e4, rfl, w4⟩ := DataW.trod_string Tryz.underlying9 h4
  simp only [List.cons.injEq, and_true] at e0 e4
  subst e0 e4
  have hw' : ∀ z ∈ DataW.weightsEach Tryz.prog [3, 27, 27, 25, 9] [DataW.lit (.int .i64 k), x1.1, x2.1, x3.1, .lit (.string s.data.toList)], z ≤ reachBytes := by
    intro z hz
    refine hw z ?_
    have : ((DataW.agg ([((DataW.lit (.int .i64 k) : DataW H), ([] : List MemPlace)), x1, x2, x3, (.lit (.string s.data.toList), [])].map (·.1))).weights Tryz.prog 29) = DataW.weightsEach Tryz.prog [3, 27, 27, 25, 9] [DataW.lit (.int .i64 k), x1.1, x2.1, x3.1, .lit (.string s.data.toList)] := by
      simp [DataW.weights, Tryz.underlying29]
    rw [this]; exact hz
  have hm : ∀ (j : Nat) {t : TypeId} {d : DataW H}, [3, 27, 27, 25, 9][j]? = some t → [DataW.lit (.int .i64 k), x1.1, x2.1, x3.1, .lit (.string s.data.toList)][j]? = some d → ∀ z ∈ d.weights Tryz.prog t, z ≤ reachBytes :=
    fun j t d ht hd z hz => hw' z (DataW.weights_mem_each ht hd z hz)
  have hs : s.size ≤ 140737488355328 := by
    have := hm 4 rfl rfl s.data.toList.length (by simp [DataW.weights])
    simp [reachBytes] at this
    have e : s.size = s.data.size := rfl
    omega
  obtain ⟨a, ha, oa⟩ := open_pt n (Nat.le_refl _) h1 (hm 1 rfl rfl)
  obtain ⟨b, hb, ob⟩ := open_pt n (Nat.le_refl _) h2 (hm 2 rfl rfl)
  obtain ⟨l, hl1, hl2, la, lc, e3, hl4⟩ := open_sl h3 (hm 3 rfl rfl)
  obtain ⟨k1, n1, s1, la1, ln1, lc1, e1⟩ := csP_cells ha
  obtain ⟨k2, n2, s2, la2, ln2, lc2, e2⟩ := csP_cells hb
  simp only [List.cons.injEq, and_true] at e3
  refine ⟨⟨k, a, b, l, s⟩, ⟨_, _, c9, ?_, ha, hb, hl1, la, lc, e3, hl4⟩, oa, ob, hl2, hs⟩
  rfl
theorem open_ops {fuel : Nat} {cs : List Value} {x : DataW H × List MemPlace} (h3 : DataW.trod enc Tryz.prog W 0 spare held fuel 22 cs = some x) (hw : ∀ n ∈ x.1.weights Tryz.prog 22, n ≤ reachBytes) :
    ∃ l : List OT, l.length ≤ 4398046511104 ∧ (∀ x ∈ l, okO x) ∧ ∃ la lc, cs = [.slice la l.length lc] ∧ (l ≠ [] → ∃ b' o', la = some ⟨b', o', none⟩ ∧ InOs W b' o' l) := by
  rcases DataW.trod_slice Tryz.underlying22 h3 with ⟨e3, rfl⟩ | ⟨a, len, cap, elems, rest, n1, rfl, e3, rfl, hb1, hlc, hcm, hel2, hels, _, _⟩
  · subst e3
    exact ⟨[], by simp, by simp, none, 0, rfl, by simp⟩
  · subst e3
    have hwl : ∀ z ∈ (len + rest.length) * 160 :: DataW.weightsAll Tryz.prog 29 (elems.map (·.1)), z ≤ reachBytes := by
      intro z hz
      refine hw z ?_
      simp only [DataW.weights, Tryz.underlying22, bytes29, List.length_map, List.mem_append, List.mem_cons, hel2] at hz ⊢
      rcases hz with hz | hz
      · exact .inl hz
      · exact .inr (.inl hz)
    have hln : len ≤ 4398046511104 := by
      have := hwl ((len + rest.length) * 160) (by simp)
      simp only [reachBytes] at this
      omega
    have hea : ∀ i, i < len → ∃ p : OT, (W.cells? 0 (a.add (i * 11)) 11 ≠ none ∧ ∀ cs, W.cells? 0 (a.add (i * 11)) 11 = some cs → CsO W p cs) ∧ okO p := by
      intro i hi
      have h4 := hels i hi
      rw [cells29] at h4
      have hi' : i < elems.length := by omega
      rw [List.getElem?_eq_getElem hi'] at h4
      cases hc : W.cells? 0 (a.add (i * 11)) 11 with
      | none => rw [hc] at h4; simp at h4
      | some cs =>
        rw [hc] at h4
        simp only [Option.bind_some] at h4
        obtain ⟨p, hp1, hp2⟩ := open_op h4 (fun z hz => hwl z (List.mem_cons_of_mem _ (weights_mem_all (List.mem_map_of_mem (List.getElem_mem hi')) hz)))
        exact ⟨p, ⟨by simp, fun cs' h => by obtain rfl := Option.some.inj h; exact hp1⟩, hp2⟩
    obtain ⟨l, hl, hq⟩ := choose_list len hea
    refine ⟨l, by omega, fun x hx => ?_, some a, cap, by rw [hl], fun hne => ?_⟩
    · obtain ⟨i, hi, rfl⟩ := List.getElem_of_mem hx
      exact (hq i hi).2
    have hpos : 0 < l.length := List.length_pos_iff.2 hne
    obtain ⟨⟨hsome, _⟩, _⟩ := hq 0 hpos
    have hsp : a.spot = none := by
      cases hc : W.cells? 0 (a.add (0 * 11)) 11 with
      | none => exact absurd hc hsome
      | some cs =>
        unfold World.cells? at hc
        rw [if_pos (Nat.zero_le _)] at hc
        simp only [show List.range 11 = [0, 1, 2, 3, 4, 5, 6, 7, 8, 9, 10] from by decide, List.mapM_cons, Option.bind_eq_bind, Option.bind_eq_some_iff] at hc
        obtain ⟨c0, h0, _⟩ := hc
        have : (a.add (0 * 11)).add 0 = a := by simp [Addr.add]
        rw [this] at h0
        exact World.cell?_spot h0
    obtain ⟨b', o', sp⟩ := a
    obtain rfl : sp = none := hsp
    refine ⟨b', o', rfl, inOs_of l o' fun i hi => ?_⟩
    obtain ⟨⟨hsome, hcs⟩, _⟩ := hq i hi
    have ea : (⟨b', o', none⟩ : Addr).add (i * 11) = ⟨b', o' + 11 * i, none⟩ := by rw [Go.WideShapes.add_plain, Nat.mul_comm]
    rw [ea] at hsome hcs
    cases hc : W.cells? 0 ⟨b', o' + 11 * i, none⟩ 11 with
    | none => exact absurd hc hsome
    | some cs => exact inO_of hc (hcs cs hc)
end
section
variable {H : Type} {enc : TypeId × Value → H}
/-- The law's argument. -/
theorem open_opsarg {W : World} {base : Nat} {v : Value} {d : DataW H} {p : List MemPlace} (hv : Value.okWide Tryz.prog W .any base 22 v) (h : DataW.Trod enc Tryz.prog W 0 (fun _ => true) true 22 v d p) (hw : ∀ n ∈ d.weights Tryz.prog 22, n ≤ reachBytes) :
    ∃ l : List OT, SlO W l v := by
  obtain ⟨a, len, cap, rfl⟩ := okWide_slice Tryz.underlying22 hv
  obtain ⟨fuel, hf⟩ := h
  obtain ⟨l, h1, h2, la, lc, h3, h4⟩ := open_ops hf hw
  have h3' : [Value.slice a len cap] = [.slice la l.length lc] := h3
  simp only [List.cons.injEq, and_true] at h3'
  exact ⟨l, h1, h2, la, lc, h3', h4⟩
end
end

section
open Go.RowKit
set_option maxRecDepth 100000
theorem stepO {W w w' : World} {b : Nat} {v1 v2 v3 v4 v5 v6 v7 v8 : Value} (h : w.cell? ⟨b, 1, none⟩ = some v1 ∧ w.cell? ⟨b, 2, none⟩ = some v2 ∧ w.cell? ⟨b, 3, none⟩ = some v3 ∧ w.cell? ⟨b, 4, none⟩ = some v4 ∧ w.cell? ⟨b, 5, none⟩ = some v5 ∧ w.cell? ⟨b, 6, none⟩ = some v6 ∧ w.cell? ⟨b, 7, none⟩ = some v7 ∧ w.cell? ⟨b, 8, none⟩ = some v8 ∧ Below W.heap.size W w) (hb : Below w.heap.size w w') :
    w'.cell? ⟨b, 1, none⟩ = some v1 ∧ w'.cell? ⟨b, 2, none⟩ = some v2 ∧ w'.cell? ⟨b, 3, none⟩ = some v3 ∧ w'.cell? ⟨b, 4, none⟩ = some v4 ∧ w'.cell? ⟨b, 5, none⟩ = some v5 ∧ w'.cell? ⟨b, 6, none⟩ = some v6 ∧ w'.cell? ⟨b, 7, none⟩ = some v7 ∧ w'.cell? ⟨b, 8, none⟩ = some v8 ∧ Below W.heap.size W w' := by
  obtain ⟨h1, h2, h3, h4, h5, h6, h7, h8, h9⟩ := h
  exact ⟨cell_stepA h1 hb, cell_stepA h2 hb, cell_stepA h3 hb, cell_stepA h4 hb, cell_stepA h5 hb, cell_stepA h6 hb, cell_stepA h7 hb, cell_stepA h8 hb, h9.trans (hb.mono h9.size)⟩
theorem op_cells {w : World} {b : Nat} {x0 x1 x2 x3 x4 x5 x6 x7 x8 x9 x10 : Value} (h : w.heap[b]? = some (.cells #[x0, x1, x2, x3, x4, x5, x6, x7, x8, x9, x10] 29 (0, 0))) :
    w.cell? ⟨b, 0, none⟩ = some x0 ∧ w.cell? ⟨b, 1, none⟩ = some x1 ∧ w.cell? ⟨b, 2, none⟩ = some x2 ∧ w.cell? ⟨b, 3, none⟩ = some x3 ∧ w.cell? ⟨b, 4, none⟩ = some x4 ∧ w.cell? ⟨b, 5, none⟩ = some x5 ∧ w.cell? ⟨b, 6, none⟩ = some x6 ∧ w.cell? ⟨b, 7, none⟩ = some x7 ∧ w.cell? ⟨b, 8, none⟩ = some x8 ∧ w.cell? ⟨b, 9, none⟩ = some x9 ∧ w.cell? ⟨b, 10, none⟩ = some x10 :=
  ⟨(heapcell h 0).1, (heapcell h 1).1, (heapcell h 2).1, (heapcell h 3).1, (heapcell h 4).1, (heapcell h 5).1, (heapcell h 6).1, (heapcell h 7).1, (heapcell h 8).1, (heapcell h 9).1, (heapcell h 10).1⟩
theorem argP_form {w : World} {p : PT} {v : Value} (h : ArgP w p v) : ∃ k n s la ln lc, v = .agg #[.int .i64 k, .int .i64 n, .string s, .slice la ln lc] := by
  cases p with
  | mk k n s l => obtain ⟨_, _, la, lc, rfl, _⟩ := h; exact ⟨k, n, s, la, l.length, lc, rfl⟩
theorem arg_in2 {W w' : World} {p : PT} {v : Value} (h : ArgP W p v) (hw : Below W.heap.size W w') : ArgP w' p v := h.below hw
/-- A call as the argument of plays. -/
def ArgO (w : World) (x : OT) (v : Value) : Prop := ∃ ka na sa la lna lca kb nb sb lb lnb lcb ll lnl lcl, v = .agg #[.int .i64 x.kind, .int .i64 ka, .int .i64 na, .string sa, .slice la lna lca, .int .i64 kb, .int .i64 nb, .string sb, .slice lb lnb lcb, .slice ll lnl lcl, .string x.s] ∧
  ArgP w x.a (.agg #[.int .i64 ka, .int .i64 na, .string sa, .slice la lna lca]) ∧ ArgP w x.b (.agg #[.int .i64 kb, .int .i64 nb, .string sb, .slice lb lnb lcb]) ∧ SlP w x.l (.slice ll lnl lcl)
set_option maxHeartbeats 4000000 in
theorem plays_may (a b : PT) (l : List PT) (w : World) {ka na kb nb : Int} {sa sb s : ByteArray} {la lb ll : Option Addr} {lna lca lnb lcb lnl lcl : Nat} (ha : ArgP w a (.agg #[.int .i64 ka, .int .i64 na, .string sa, .slice la lna lca])) (hb : ArgP w b (.agg #[.int .i64 kb, .int .i64 nb, .string sb, .slice lb lnb lcb])) (hl : SlP w l (.slice ll lnl lcl)) (hs : s.size ≤ 140737488355328) (ho : okP a) (hob : okP b) (ht : Tabs w) (h5 : 5 ≤ w.heap.size) :
    Calls Tryz.prog 5 #[(.agg #[.int .i64 1, .int .i64 ka, .int .i64 na, .string sa, .slice la lna lca, .int .i64 kb, .int .i64 nb, .string sb, .slice lb lnb lcb, .slice ll lnl lcl, .string s])] w (RetB w (.bool true)) := by
  have hz := heap_alloc_new w (.cells #[.int .i64 1, .int .i64 ka, .int .i64 na, .string sa, .slice la lna lca, .int .i64 kb, .int .i64 nb, .string sb, .slice lb lnb lcb, .slice ll lnl lcl, .string s] 29)
  have hB0 := alloc_below w (.cells #[.int .i64 1, .int .i64 ka, .int .i64 na, .string sa, .slice la lna lca, .int .i64 kb, .int .i64 nb, .string sb, .slice lb lnb lcb, .slice ll lnl lcl, .string s] 29)
  have HA := Lib.hid (ha.below hB0)
  have HB := Lib.hid (hb.below hB0)
  have HL := Lib.hid (hl.below hB0)
  have HO := Lib.hid ho
  have HOB := Lib.hid hob
  have HT := Lib.hid (ht.below hB0 h5)
  have H5 := Lib.hid (Nat.le_trans h5 hB0.size)
  have HZ := Lib.hid hz
  have HB0 := Lib.hid hB0
  obtain ⟨R, hR⟩ : ∃ R, R = w.heap.size := ⟨_, rfl⟩
  obtain ⟨c0, c1, c2, c3, c4, c5, c6, c7, c8, c9, c10⟩ := op_cells hz
  clear ha hb hl ho hob ht h5 hz hB0
  go_enter Tryz.func5, Tryz.ntmps5
  go_wp2_with fail
  generalize (w.alloc (.cells #[.int .i64 1, .int .i64 ka, .int .i64 na, .string sa, .slice la lna lca, .int .i64 kb, .int .i64 nb, .string sb, .slice lb lnb lcb, .slice ll lnl lcl, .string s] 29)) = W at HA HB HL HT H5 HZ HB0 c0 c1 c2 c3 c4 c5 c6 c7 c8 c9 c10 ⊢
  rw [← hR] at HZ c0 c1 c2 c3 c4 c5 c6 c7 c8 c9 c10
  simp only [← hR]
  have HR := Lib.hid hR
  clear hR
  have hBd : Below W.heap.size W W.drew := (Below.refl _ _).drew
  go_region_held3 (fun w' => w'.cell? ⟨R, 1, none⟩ = some (.int .i64 ka) ∧ w'.cell? ⟨R, 2, none⟩ = some (.int .i64 na) ∧ w'.cell? ⟨R, 3, none⟩ = some (.string sa) ∧ w'.cell? ⟨R, 4, none⟩ = some (.slice la lna lca) ∧ w'.cell? ⟨R, 5, none⟩ = some (.int .i64 kb) ∧ w'.cell? ⟨R, 6, none⟩ = some (.int .i64 nb) ∧ w'.cell? ⟨R, 7, none⟩ = some (.string sb) ∧ w'.cell? ⟨R, 8, none⟩ = some (.slice lb lnb lcb) ∧ Below W.heap.size W w')
    (first | exact ⟨c1, c2, c3, c4, c5, c6, c7, c8, (Below.refl _ _).drew⟩ | exact stepO (w := W.drew) ⟨c1, c2, c3, c4, c5, c6, c7, c8, hBd⟩ hb | (refine stepO ?_ hb; assumption) | assumption)
    (first
    | (go_at_call 15; ((with_reducible refine (may_any a _ _ (arg_in2 HA.out ?_)).mono ?_); (first | assumption | (apply and9; assumption)); rintro e w1 ⟨rfl, hb⟩))
    | (go_at_call 16; ((with_reducible refine (rmay_any a _ _ (arg_in2 HA.out ?_)).mono ?_); (first | assumption | (apply and9; assumption)); rintro e w1 ⟨rfl, hb⟩)))
  all_goals
    rename_i hS
    have hBW := and9 hS
    have HBW := Lib.hid (HB0.out.trans (hBW.mono HB0.out.size))
    clear hS hBW
    go_wp2_with fail
    go_ret
    exact ⟨by simp, HBW.out⟩
theorem same_at {a b : PT} {W w' : World} {v u : Value} (ha : ArgP W a v) (hb : ArgP W b u) (hw : Below W.heap.size W w') : Calls Tryz.prog 14 #[v, u] w' (RetB w' (.bool (sameP a b))) := same_any a b _ _ _ (ha.below hw) (hb.below hw)
theorem rsame_at {a b : PT} {W w' : World} {v u : Value} (ha : ArgP W a v) (hb : ArgP W b u) (hw : Below W.heap.size W w') : Calls Tryz.prog 20 #[v, u] w' (RetB w' (.bool (sameP a b))) := rsame_any a b _ _ _ (ha.below hw) (hb.below hw)
theorem cmp_at {a b : PT} {W w' : World} {v u : Value} (ha : ArgP W a v) (hb : ArgP W b u) (hw : Below W.heap.size W w') : Calls Tryz.prog 13 #[v, u] w' (RetB w' (.int .i64 (compP a b))) := compare_walk a b _ _ _ (ha.below hw) (hb.below hw)
theorem rcmp_at {a b : PT} {W w' : World} {v u : Value} (ha : ArgP W a v) (hb : ArgP W b u) (hw : Below W.heap.size W w') : Calls Tryz.prog 21 #[v, u] w' (RetB w' (.int .i64 (compP a b))) := rcompare_any a b _ _ _ (ha.below hw) (hb.below hw)
set_option maxHeartbeats 4000000 in
theorem plays_same (a b : PT) (l : List PT) (w : World) {ka na kb nb : Int} {sa sb s : ByteArray} {la lb ll : Option Addr} {lna lca lnb lcb lnl lcl : Nat} (ha : ArgP w a (.agg #[.int .i64 ka, .int .i64 na, .string sa, .slice la lna lca])) (hb : ArgP w b (.agg #[.int .i64 kb, .int .i64 nb, .string sb, .slice lb lnb lcb])) (hl : SlP w l (.slice ll lnl lcl)) (hs : s.size ≤ 140737488355328) (ho : okP a) (hob : okP b) (ht : Tabs w) (h5 : 5 ≤ w.heap.size) :
    Calls Tryz.prog 5 #[(.agg #[.int .i64 3, .int .i64 ka, .int .i64 na, .string sa, .slice la lna lca, .int .i64 kb, .int .i64 nb, .string sb, .slice lb lnb lcb, .slice ll lnl lcl, .string s])] w (RetB w (.bool true)) := by
  have hz := heap_alloc_new w (.cells #[.int .i64 3, .int .i64 ka, .int .i64 na, .string sa, .slice la lna lca, .int .i64 kb, .int .i64 nb, .string sb, .slice lb lnb lcb, .slice ll lnl lcl, .string s] 29)
  have hB0 := alloc_below w (.cells #[.int .i64 3, .int .i64 ka, .int .i64 na, .string sa, .slice la lna lca, .int .i64 kb, .int .i64 nb, .string sb, .slice lb lnb lcb, .slice ll lnl lcl, .string s] 29)
  have HA := Lib.hid (ha.below hB0)
  have HB := Lib.hid (hb.below hB0)
  have HL := Lib.hid (hl.below hB0)
  have HO := Lib.hid ho
  have HOB := Lib.hid hob
  have HT := Lib.hid (ht.below hB0 h5)
  have H5 := Lib.hid (Nat.le_trans h5 hB0.size)
  have HZ := Lib.hid hz
  have HB0 := Lib.hid hB0
  obtain ⟨R, hR⟩ : ∃ R, R = w.heap.size := ⟨_, rfl⟩
  obtain ⟨c0, c1, c2, c3, c4, c5, c6, c7, c8, c9, c10⟩ := op_cells hz
  clear ha hb hl ho hob ht h5 hz hB0
  go_enter Tryz.func5, Tryz.ntmps5
  go_wp2_with fail
  generalize (w.alloc (.cells #[.int .i64 3, .int .i64 ka, .int .i64 na, .string sa, .slice la lna lca, .int .i64 kb, .int .i64 nb, .string sb, .slice lb lnb lcb, .slice ll lnl lcl, .string s] 29)) = W at HA HB HL HT H5 HZ HB0 c0 c1 c2 c3 c4 c5 c6 c7 c8 c9 c10 ⊢
  rw [← hR] at HZ c0 c1 c2 c3 c4 c5 c6 c7 c8 c9 c10
  simp only [← hR]
  have HR := Lib.hid hR
  clear hR
  have hBd : Below W.heap.size W W.drew := (Below.refl _ _).drew
  go_region_held3 (fun w' => w'.cell? ⟨R, 1, none⟩ = some (.int .i64 ka) ∧ w'.cell? ⟨R, 2, none⟩ = some (.int .i64 na) ∧ w'.cell? ⟨R, 3, none⟩ = some (.string sa) ∧ w'.cell? ⟨R, 4, none⟩ = some (.slice la lna lca) ∧ w'.cell? ⟨R, 5, none⟩ = some (.int .i64 kb) ∧ w'.cell? ⟨R, 6, none⟩ = some (.int .i64 nb) ∧ w'.cell? ⟨R, 7, none⟩ = some (.string sb) ∧ w'.cell? ⟨R, 8, none⟩ = some (.slice lb lnb lcb) ∧ Below W.heap.size W w')
    (first | exact ⟨c1, c2, c3, c4, c5, c6, c7, c8, (Below.refl _ _).drew⟩ | exact stepO (w := W.drew) ⟨c1, c2, c3, c4, c5, c6, c7, c8, hBd⟩ hb | (refine stepO ?_ hb; assumption) | assumption)
    (first
    | (go_at_call 14; ((with_reducible refine (same_at HA.out HB.out ?_).mono ?_); (first | assumption | (apply and9; assumption)); rintro e w1 ⟨rfl, hb⟩))
    | (go_at_call 20; ((with_reducible refine (rsame_at HA.out HB.out ?_).mono ?_); (first | assumption | (apply and9; assumption)); rintro e w1 ⟨rfl, hb⟩)))
  all_goals
    rename_i hS
    have hBW := and9 hS
    have HBW := Lib.hid (HB0.out.trans (hBW.mono HB0.out.size))
    clear hS hBW
    go_wp2_with fail
    go_ret
    exact ⟨by simp, HBW.out⟩
set_option maxHeartbeats 4000000 in
theorem plays_cmp (a b : PT) (l : List PT) (w : World) {ka na kb nb : Int} {sa sb s : ByteArray} {la lb ll : Option Addr} {lna lca lnb lcb lnl lcl : Nat} (ha : ArgP w a (.agg #[.int .i64 ka, .int .i64 na, .string sa, .slice la lna lca])) (hb : ArgP w b (.agg #[.int .i64 kb, .int .i64 nb, .string sb, .slice lb lnb lcb])) (hl : SlP w l (.slice ll lnl lcl)) (hs : s.size ≤ 140737488355328) (ho : okP a) (hob : okP b) (ht : Tabs w) (h5 : 5 ≤ w.heap.size) :
    Calls Tryz.prog 5 #[(.agg #[.int .i64 4, .int .i64 ka, .int .i64 na, .string sa, .slice la lna lca, .int .i64 kb, .int .i64 nb, .string sb, .slice lb lnb lcb, .slice ll lnl lcl, .string s])] w (RetB w (.bool true)) := by
  have hz := heap_alloc_new w (.cells #[.int .i64 4, .int .i64 ka, .int .i64 na, .string sa, .slice la lna lca, .int .i64 kb, .int .i64 nb, .string sb, .slice lb lnb lcb, .slice ll lnl lcl, .string s] 29)
  have hB0 := alloc_below w (.cells #[.int .i64 4, .int .i64 ka, .int .i64 na, .string sa, .slice la lna lca, .int .i64 kb, .int .i64 nb, .string sb, .slice lb lnb lcb, .slice ll lnl lcl, .string s] 29)
  have HA := Lib.hid (ha.below hB0)
  have HB := Lib.hid (hb.below hB0)
  have HL := Lib.hid (hl.below hB0)
  have HO := Lib.hid ho
  have HOB := Lib.hid hob
  have HT := Lib.hid (ht.below hB0 h5)
  have H5 := Lib.hid (Nat.le_trans h5 hB0.size)
  have HZ := Lib.hid hz
  have HB0 := Lib.hid hB0
  obtain ⟨R, hR⟩ : ∃ R, R = w.heap.size := ⟨_, rfl⟩
  obtain ⟨c0, c1, c2, c3, c4, c5, c6, c7, c8, c9, c10⟩ := op_cells hz
  clear ha hb hl ho hob ht h5 hz hB0
  go_enter Tryz.func5, Tryz.ntmps5
  go_wp2_with fail
  generalize (w.alloc (.cells #[.int .i64 4, .int .i64 ka, .int .i64 na, .string sa, .slice la lna lca, .int .i64 kb, .int .i64 nb, .string sb, .slice lb lnb lcb, .slice ll lnl lcl, .string s] 29)) = W at HA HB HL HT H5 HZ HB0 c0 c1 c2 c3 c4 c5 c6 c7 c8 c9 c10 ⊢
  rw [← hR] at HZ c0 c1 c2 c3 c4 c5 c6 c7 c8 c9 c10
  simp only [← hR]
  have HR := Lib.hid hR
  clear hR
  have hBd : Below W.heap.size W W.drew := (Below.refl _ _).drew
  go_region_held3 (fun w' => w'.cell? ⟨R, 1, none⟩ = some (.int .i64 ka) ∧ w'.cell? ⟨R, 2, none⟩ = some (.int .i64 na) ∧ w'.cell? ⟨R, 3, none⟩ = some (.string sa) ∧ w'.cell? ⟨R, 4, none⟩ = some (.slice la lna lca) ∧ w'.cell? ⟨R, 5, none⟩ = some (.int .i64 kb) ∧ w'.cell? ⟨R, 6, none⟩ = some (.int .i64 nb) ∧ w'.cell? ⟨R, 7, none⟩ = some (.string sb) ∧ w'.cell? ⟨R, 8, none⟩ = some (.slice lb lnb lcb) ∧ Below W.heap.size W w')
    (first | exact ⟨c1, c2, c3, c4, c5, c6, c7, c8, (Below.refl _ _).drew⟩ | exact stepO (w := W.drew) ⟨c1, c2, c3, c4, c5, c6, c7, c8, hBd⟩ hb | (refine stepO ?_ hb; assumption) | assumption)
    (first
    | (go_at_call 13; ((with_reducible refine (cmp_at HA.out HB.out ?_).mono ?_); (first | assumption | (apply and9; assumption)); rintro e w1 ⟨rfl, hb⟩))
    | (go_at_call 21; ((with_reducible refine (rcmp_at HA.out HB.out ?_).mono ?_); (first | assumption | (apply and9; assumption)); rintro e w1 ⟨rfl, hb⟩)))
  all_goals
    rename_i hS
    have hBW := and9 hS
    have HBW := Lib.hid (HB0.out.trans (hBW.mono HB0.out.size))
    clear hS hBW
    go_wp2_with fail
    go_ret
    exact ⟨by simp, HBW.out⟩
set_option maxHeartbeats 4000000 in
theorem plays_size (a b : PT) (l : List PT) (w : World) {ka na kb nb : Int} {sa sb s : ByteArray} {la lb ll : Option Addr} {lna lca lnb lcb lnl lcl : Nat} (ha : ArgP w a (.agg #[.int .i64 ka, .int .i64 na, .string sa, .slice la lna lca])) (hb : ArgP w b (.agg #[.int .i64 kb, .int .i64 nb, .string sb, .slice lb lnb lcb])) (hl : SlP w l (.slice ll lnl lcl)) (hs : s.size ≤ 140737488355328) (ho : okP a) (hob : okP b) (ht : Tabs w) (h5 : 5 ≤ w.heap.size) :
    Calls Tryz.prog 5 #[(.agg #[.int .i64 5, .int .i64 ka, .int .i64 na, .string sa, .slice la lna lca, .int .i64 kb, .int .i64 nb, .string sb, .slice lb lnb lcb, .slice ll lnl lcl, .string s])] w (RetB w (.bool true)) := by
  have hz := heap_alloc_new w (.cells #[.int .i64 5, .int .i64 ka, .int .i64 na, .string sa, .slice la lna lca, .int .i64 kb, .int .i64 nb, .string sb, .slice lb lnb lcb, .slice ll lnl lcl, .string s] 29)
  have hB0 := alloc_below w (.cells #[.int .i64 5, .int .i64 ka, .int .i64 na, .string sa, .slice la lna lca, .int .i64 kb, .int .i64 nb, .string sb, .slice lb lnb lcb, .slice ll lnl lcl, .string s] 29)
  have HA := Lib.hid (ha.below hB0)
  have HB := Lib.hid (hb.below hB0)
  have HL := Lib.hid (hl.below hB0)
  have HO := Lib.hid ho
  have HOB := Lib.hid hob
  have HT := Lib.hid (ht.below hB0 h5)
  have H5 := Lib.hid (Nat.le_trans h5 hB0.size)
  have HZ := Lib.hid hz
  have HB0 := Lib.hid hB0
  obtain ⟨R, hR⟩ : ∃ R, R = w.heap.size := ⟨_, rfl⟩
  obtain ⟨c0, c1, c2, c3, c4, c5, c6, c7, c8, c9, c10⟩ := op_cells hz
  clear ha hb hl ho hob ht h5 hz hB0
  go_enter Tryz.func5, Tryz.ntmps5
  go_wp2_with fail
  generalize (w.alloc (.cells #[.int .i64 5, .int .i64 ka, .int .i64 na, .string sa, .slice la lna lca, .int .i64 kb, .int .i64 nb, .string sb, .slice lb lnb lcb, .slice ll lnl lcl, .string s] 29)) = W at HA HB HL HT H5 HZ HB0 c0 c1 c2 c3 c4 c5 c6 c7 c8 c9 c10 ⊢
  rw [← hR] at HZ c0 c1 c2 c3 c4 c5 c6 c7 c8 c9 c10
  simp only [← hR]
  have HR := Lib.hid hR
  clear hR
  have hBd : Below W.heap.size W W.drew := (Below.refl _ _).drew
  go_region_held3 (fun w' => w'.cell? ⟨R, 1, none⟩ = some (.int .i64 ka) ∧ w'.cell? ⟨R, 2, none⟩ = some (.int .i64 na) ∧ w'.cell? ⟨R, 3, none⟩ = some (.string sa) ∧ w'.cell? ⟨R, 4, none⟩ = some (.slice la lna lca) ∧ w'.cell? ⟨R, 5, none⟩ = some (.int .i64 kb) ∧ w'.cell? ⟨R, 6, none⟩ = some (.int .i64 nb) ∧ w'.cell? ⟨R, 7, none⟩ = some (.string sb) ∧ w'.cell? ⟨R, 8, none⟩ = some (.slice lb lnb lcb) ∧ Below W.heap.size W w')
    (first | exact ⟨c1, c2, c3, c4, c5, c6, c7, c8, (Below.refl _ _).drew⟩ | exact stepO (w := W.drew) ⟨c1, c2, c3, c4, c5, c6, c7, c8, hBd⟩ hb | (refine stepO ?_ hb; assumption) | assumption)
    (first
    | (go_at_call 12; ((with_reducible refine (size_any a _ _ (arg_in2 HA.out ?_)).mono ?_); (first | assumption | (apply and9; assumption)); rintro e w1 ⟨rfl, hb⟩))
    | (go_at_call 22; ((with_reducible refine (rsize_any a _ _ (arg_in2 HA.out ?_)).mono ?_); (first | assumption | (apply and9; assumption)); rintro e w1 ⟨rfl, hb⟩)))
  all_goals
    rename_i hS
    have hBW := and9 hS
    have HBW := Lib.hid (HB0.out.trans (hBW.mono HB0.out.size))
    clear hS hBW
    go_wp2_with fail
    go_ret
    exact ⟨by simp, HBW.out⟩
set_option maxHeartbeats 4000000 in
theorem plays_text (a b : PT) (l : List PT) (w : World) {ka na kb nb : Int} {sa sb s : ByteArray} {la lb ll : Option Addr} {lna lca lnb lcb lnl lcl : Nat} (ha : ArgP w a (.agg #[.int .i64 ka, .int .i64 na, .string sa, .slice la lna lca])) (hb : ArgP w b (.agg #[.int .i64 kb, .int .i64 nb, .string sb, .slice lb lnb lcb])) (hl : SlP w l (.slice ll lnl lcl)) (hs : s.size ≤ 140737488355328) (ho : okP a) (hob : okP b) (ht : Tabs w) (h5 : 5 ≤ w.heap.size) :
    Calls Tryz.prog 5 #[(.agg #[.int .i64 6, .int .i64 ka, .int .i64 na, .string sa, .slice la lna lca, .int .i64 kb, .int .i64 nb, .string sb, .slice lb lnb lcb, .slice ll lnl lcl, .string s])] w (RetB w (.bool true)) := by
  have hz := heap_alloc_new w (.cells #[.int .i64 6, .int .i64 ka, .int .i64 na, .string sa, .slice la lna lca, .int .i64 kb, .int .i64 nb, .string sb, .slice lb lnb lcb, .slice ll lnl lcl, .string s] 29)
  have hB0 := alloc_below w (.cells #[.int .i64 6, .int .i64 ka, .int .i64 na, .string sa, .slice la lna lca, .int .i64 kb, .int .i64 nb, .string sb, .slice lb lnb lcb, .slice ll lnl lcl, .string s] 29)
  have HA := Lib.hid (ha.below hB0)
  have HB := Lib.hid (hb.below hB0)
  have HL := Lib.hid (hl.below hB0)
  have HO := Lib.hid ho
  have HOB := Lib.hid hob
  have HT := Lib.hid (ht.below hB0 h5)
  have H5 := Lib.hid (Nat.le_trans h5 hB0.size)
  have HZ := Lib.hid hz
  have HB0 := Lib.hid hB0
  obtain ⟨R, hR⟩ : ∃ R, R = w.heap.size := ⟨_, rfl⟩
  obtain ⟨c0, c1, c2, c3, c4, c5, c6, c7, c8, c9, c10⟩ := op_cells hz
  clear ha hb hl ho hob ht h5 hz hB0
  go_enter Tryz.func5, Tryz.ntmps5
  go_wp2_with fail
  generalize (w.alloc (.cells #[.int .i64 6, .int .i64 ka, .int .i64 na, .string sa, .slice la lna lca, .int .i64 kb, .int .i64 nb, .string sb, .slice lb lnb lcb, .slice ll lnl lcl, .string s] 29)) = W at HA HB HL HT H5 HZ HB0 c0 c1 c2 c3 c4 c5 c6 c7 c8 c9 c10 ⊢
  rw [← hR] at HZ c0 c1 c2 c3 c4 c5 c6 c7 c8 c9 c10
  simp only [← hR]
  have HR := Lib.hid hR
  clear hR
  refine (text_any a _ _ HA.out HO.out HT.out H5.out).mono ?_
  rintro e w1 ⟨rfl, hb1⟩
  have HB1 := Lib.hid (HB0.out.trans (hb1.mono HB0.out.size))
  have HA1 := Lib.hid (HA.out.below hb1)
  have HZ1 := (hb1.block R (Array.getElem?_eq_some_iff.1 HZ.out).1).trans HZ.out
  clear hb1 c0 c1 c2 c3 c4 c5 c6 c7 c8 c9 c10
  obtain ⟨c0, c1, c2, c3, c4, c5, c6, c7, c8, c9, c10⟩ := op_cells HZ1
  clear HZ1
  go_wp2_with fail
  refine (reftext_any a _ _ HA1.out HO.out).mono ?_
  rintro e w2 ⟨rfl, hb2⟩
  have HB2 := Lib.hid (HB1.out.trans (hb2.mono HB1.out.size))
  clear hb2 c0 c1 c2 c3 c4 c5 c6 c7 c8 c9 c10
  generalize textP a = te
  go_wp2_with fail
  go_ret
  exact ⟨rfl, HB2.out⟩
set_option maxHeartbeats 4000000 in
theorem plays_of (a b : PT) (l : List PT) (w : World) {ka na kb nb : Int} {sa sb s : ByteArray} {la lb ll : Option Addr} {lna lca lnb lcb lnl lcl : Nat} (ha : ArgP w a (.agg #[.int .i64 ka, .int .i64 na, .string sa, .slice la lna lca])) (hb : ArgP w b (.agg #[.int .i64 kb, .int .i64 nb, .string sb, .slice lb lnb lcb])) (hl : SlP w l (.slice ll lnl lcl)) (hs : s.size ≤ 140737488355328) (ho : okP a) (hob : okP b) (ht : Tabs w) (h5 : 5 ≤ w.heap.size) :
    Calls Tryz.prog 5 #[(.agg #[.int .i64 2, .int .i64 ka, .int .i64 na, .string sa, .slice la lna lca, .int .i64 kb, .int .i64 nb, .string sb, .slice lb lnb lcb, .slice ll lnl lcl, .string s])] w (RetB w (.bool true)) := by
  have hz := heap_alloc_new w (.cells #[.int .i64 2, .int .i64 ka, .int .i64 na, .string sa, .slice la lna lca, .int .i64 kb, .int .i64 nb, .string sb, .slice lb lnb lcb, .slice ll lnl lcl, .string s] 29)
  have hB0 := alloc_below w (.cells #[.int .i64 2, .int .i64 ka, .int .i64 na, .string sa, .slice la lna lca, .int .i64 kb, .int .i64 nb, .string sb, .slice lb lnb lcb, .slice ll lnl lcl, .string s] 29)
  have HA := Lib.hid (ha.below hB0)
  have HB := Lib.hid (hb.below hB0)
  have HL := Lib.hid (hl.below hB0)
  have HO := Lib.hid ho
  have HOB := Lib.hid hob
  have HT := Lib.hid (ht.below hB0 h5)
  have H5 := Lib.hid (Nat.le_trans h5 hB0.size)
  have HZ := Lib.hid hz
  have HB0 := Lib.hid hB0
  obtain ⟨R, hR⟩ : ∃ R, R = w.heap.size := ⟨_, rfl⟩
  obtain ⟨c0, c1, c2, c3, c4, c5, c6, c7, c8, c9, c10⟩ := op_cells hz
  clear ha hb hl ho hob ht h5 hz hB0
  go_enter Tryz.func5, Tryz.ntmps5
  go_wp2_with fail
  generalize (w.alloc (.cells #[.int .i64 2, .int .i64 ka, .int .i64 na, .string sa, .slice la lna lca, .int .i64 kb, .int .i64 nb, .string sb, .slice lb lnb lcb, .slice ll lnl lcl, .string s] 29)) = W at HA HB HL HT H5 HZ HB0 c0 c1 c2 c3 c4 c5 c6 c7 c8 c9 c10 ⊢
  rw [← hR] at HZ c0 c1 c2 c3 c4 c5 c6 c7 c8 c9 c10
  simp only [← hR]
  have HR := Lib.hid hR
  clear hR
  have HZ0 := HZ
  refine (rmay_any a _ _ HA.out).mono ?_
  rintro e w1 ⟨rfl, hb1⟩
  have HZ1 : Hid (w1.heap[R]? = _) := Lib.hid ((hb1.block R (Array.getElem?_eq_some_iff.1 HZ0.out).1).trans HZ0.out)
  have HB1 := Lib.hid (HB0.out.trans (hb1.mono HB0.out.size))
  have HA1 := Lib.hid (HA.out.below hb1)
  clear hb1
  clear c0 c1 c2 c3 c4 c5 c6 c7 c8 c9 c10
  obtain ⟨c0, c1, c2, c3, c4, c5, c6, c7, c8, c9, c10⟩ := op_cells HZ1.out
  cases hm : mayP a
  · have HM := Lib.hid hm
    clear hm
    go_wp2_with fail
    refine (of_no a _ _ HA1.out HM.out).mono ?_
    rintro e w2 ⟨rfl, hb2⟩
    have HB2 := Lib.hid (HB1.out.trans (hb2.mono HB1.out.size))
    clear hb2 c0 c1 c2 c3 c4 c5 c6 c7 c8 c9 c10
    go_wp2_with fail
    go_ret
    exact ⟨rfl, HB2.out⟩
  · have HM := Lib.hid hm
    obtain ⟨m1, m2, m3, m4⟩ := may_plain a 65536 0 (by omega) (by omega) hm
    have m5 := meas_bd a 65536 0 hm
    have m6 := may_short a 65536 0 (by omega) hm
    have HSH := Lib.hid m6
    have HM1 := Lib.hid m1
    have HM2 := Lib.hid (show nodesV (valOf a) ≤ 70000 by omega)
    have HM3 := Lib.hid (show depV (valOf a) ≤ 70 by omega)
    have HM4 := Lib.hid m4
    clear hm m1 m2 m3 m4 m5 m6
    go_wp2_with fail
    refine (tw_any a _ _ HA1.out HSH.out).mono ?_
    rintro e w2 ⟨cs, bt, rfl, htw, hge, hb2⟩
    obtain ⟨k2, n2, s2, la2, ln2, lc2, rfl⟩ := htw.form
    have hba := alloc_below w2 (.cells #[.int .i64 k2, .int .i64 n2, .string s2, .slice la2 ln2 lc2] 27)
    have hb3 := hb2.trans (hba.mono hb2.size)
    have HTW := Lib.hid (TwP.keep (w' := w2.alloc (.cells #[.int .i64 k2, .int .i64 n2, .string s2, .slice la2 ln2 lc2] 27)) _ _ _ (fun g hg => hba.block g (TwP.lt _ _ _ htw g hg)) htw)
    have HZ3 := Lib.hid ((hb3.block R (Array.getElem?_eq_some_iff.1 HZ1.out).1).trans HZ1.out)
    have HB3 := Lib.hid (HB1.out.trans (hb3.mono HB1.out.size))
    have HA3 := Lib.hid (HA1.out.below hb3)
    have hT := heap_alloc_new w2 (.cells #[.int .i64 k2, .int .i64 n2, .string s2, .slice la2 ln2 lc2] 27)
    obtain ⟨T, hTT⟩ : ∃ T, T = w2.heap.size := ⟨_, rfl⟩
    rw [← hTT] at hT
    have HTC := Lib.hid hT
    obtain ⟨p0, fp0⟩ := heapcell hT 0
    obtain ⟨p1, fp1⟩ := heapcell hT 1
    obtain ⟨p2, fp2⟩ := heapcell hT 2
    obtain ⟨p3, fp3⟩ := heapcell hT 3
    clear htw hge hb2 hba hb3 hT c0 c1 c2 c3 c4 c5 c6 c7 c8 c9 c10
    go_wp2_with fail
    simp only [← hTT]
    generalize (w2.alloc (.cells #[.int .i64 k2, .int .i64 n2, .string s2, .slice la2 ln2 lc2] 27)) = W3 at HTW HZ3 HB3 HA3 HTC p0 p1 p2 p3 fp0 fp1 fp2 fp3 ⊢
    clear hTT
    go_wp2_with fail
    refine (of_yes a _ _ HTW.out.arg HM.out).mono ?_
    rintro e w4 ⟨v, vb, rfl, hrv, hnd, hgv, hb4⟩
    obtain ⟨ty, tu, rfl⟩ := hrv.iface
    have HZ4 := Lib.hid ((hb4.block R (Array.getElem?_eq_some_iff.1 HZ3.out).1).trans HZ3.out)
    have HB4 := Lib.hid (HB3.out.trans (hb4.mono HB3.out.size))
    have HA4 := Lib.hid (HA3.out.below hb4)
    have HTC4 := Lib.hid ((hb4.block T (Array.getElem?_eq_some_iff.1 HTC.out).1).trans HTC.out)
    have HTW4 := Lib.hid (TwP.keep (w' := w4) _ _ _ (fun g hg => hb4.block g (TwP.lt _ _ _ HTW.out g hg)) HTW.out)
    have HV4 := Lib.hid hrv
    clear hrv hnd hgv hb4 p0 p1 p2 p3 fp0 fp1 fp2 fp3
    obtain ⟨c0, c1, c2, c3, c4, c5, c6, c7, c8, c9, c10⟩ := op_cells HZ4.out
    go_wp2_with fail
    refine (fits_val (valOf a) a _ _ _ _ HV4.out HM1.out HA4.out HM2.out HM3.out HM4.out).mono ?_
    rintro e w5 ⟨rfl, hb5⟩
    have HZ5 := Lib.hid ((hb5.block R (Array.getElem?_eq_some_iff.1 HZ4.out).1).trans HZ4.out)
    have HB5 := Lib.hid (HB4.out.trans (hb5.mono HB4.out.size))
    have HA5 := Lib.hid (HA4.out.below hb5)
    have HTC5 := (hb5.block T (Array.getElem?_eq_some_iff.1 HTC4.out).1).trans HTC4.out
    have HTW5 := Lib.hid (TwP.keep (w' := w5) _ _ _ (fun g hg => hb5.block g (TwP.lt _ _ _ HTW4.out g hg)) HTW4.out)
    obtain ⟨p0, fp0⟩ := heapcell HTC5 0
    obtain ⟨p1, fp1⟩ := heapcell HTC5 1
    obtain ⟨p2, fp2⟩ := heapcell HTC5 2
    obtain ⟨p3, fp3⟩ := heapcell HTC5 3
    clear hb5 HTC5 c0 c1 c2 c3 c4 c5 c6 c7 c8 c9 c10
    obtain ⟨c0, c1, c2, c3, c4, c5, c6, c7, c8, c9, c10⟩ := op_cells HZ5.out
    go_wp2_with fail
    refine (kept_any a _ _ _ _ HTW5.out HA5.out HSH.out).mono ?_
    rintro e w6 ⟨rfl, hb6⟩
    have HB6 := Lib.hid (HB5.out.trans (hb6.mono HB5.out.size))
    clear hb6 c0 c1 c2 c3 c4 c5 c6 c7 c8 c9 c10 p0 p1 p2 p3 fp0 fp1 fp2 fp3
    go_wp2_with fail
    go_ret
    exact ⟨rfl, HB6.out⟩
theorem zero_arg (w : World) : ArgP w (.mk 0 0 ⟨#[]⟩ []) (.agg #[.int .i64 0, .int .i64 0, .string ⟨#[]⟩, .slice none 0 0]) := ⟨by decide, by simp, none, 0, rfl, by simp⟩
theorem readR_spec {s : ByteArray} {t : VT} (h : readR s = .ok t) : nodesV t ≤ 70000 ∧ depV t ≤ 70 ∧ txtV t := by
  obtain ⟨_, h1, h2, _⟩ := read_back h
  have h3 := small_of t
  exact ⟨by omega, by omega, h3.2.2 h1⟩
set_option maxHeartbeats 4000000 in
theorem plays_read (a b : PT) (l : List PT) (w : World) {ka na kb nb : Int} {sa sb s : ByteArray} {la lb ll : Option Addr} {lna lca lnb lcb lnl lcl : Nat} (ha : ArgP w a (.agg #[.int .i64 ka, .int .i64 na, .string sa, .slice la lna lca])) (hb : ArgP w b (.agg #[.int .i64 kb, .int .i64 nb, .string sb, .slice lb lnb lcb])) (hl : SlP w l (.slice ll lnl lcl)) (hs : s.size ≤ 140737488355328) (ho : okP a) (hob : okP b) (ht : Tabs w) (h5 : 5 ≤ w.heap.size) :
    Calls Tryz.prog 5 #[(.agg #[.int .i64 7, .int .i64 ka, .int .i64 na, .string sa, .slice la lna lca, .int .i64 kb, .int .i64 nb, .string sb, .slice lb lnb lcb, .slice ll lnl lcl, .string s])] w (RetB w (.bool true)) := by
  have hz := heap_alloc_new w (.cells #[.int .i64 7, .int .i64 ka, .int .i64 na, .string sa, .slice la lna lca, .int .i64 kb, .int .i64 nb, .string sb, .slice lb lnb lcb, .slice ll lnl lcl, .string s] 29)
  have hB0 := alloc_below w (.cells #[.int .i64 7, .int .i64 ka, .int .i64 na, .string sa, .slice la lna lca, .int .i64 kb, .int .i64 nb, .string sb, .slice lb lnb lcb, .slice ll lnl lcl, .string s] 29)
  have HA := Lib.hid (ha.below hB0)
  have HB := Lib.hid (hb.below hB0)
  have HL := Lib.hid (hl.below hB0)
  have HO := Lib.hid ho
  have HOB := Lib.hid hob
  have HT := Lib.hid (ht.below hB0 h5)
  have H5 := Lib.hid (Nat.le_trans h5 hB0.size)
  have HZ := Lib.hid hz
  have HB0 := Lib.hid hB0
  obtain ⟨R, hR⟩ : ∃ R, R = w.heap.size := ⟨_, rfl⟩
  obtain ⟨c0, c1, c2, c3, c4, c5, c6, c7, c8, c9, c10⟩ := op_cells hz
  clear ha hb hl ho hob ht h5 hz hB0
  go_enter Tryz.func5, Tryz.ntmps5
  go_wp2_with fail
  generalize (w.alloc (.cells #[.int .i64 7, .int .i64 ka, .int .i64 na, .string sa, .slice la lna lca, .int .i64 kb, .int .i64 nb, .string sb, .slice lb lnb lcb, .slice ll lnl lcl, .string s] 29)) = W at HA HB HL HT H5 HZ HB0 c0 c1 c2 c3 c4 c5 c6 c7 c8 c9 c10 ⊢
  rw [← hR] at HZ c0 c1 c2 c3 c4 c5 c6 c7 c8 c9 c10
  simp only [← hR]
  have HR := Lib.hid hR
  clear hR
  have HZ0 := HZ
  have HS := Lib.hid hs
  clear hs
  by_cases hlong : 1048576 < s.size
  · have HLG := Lib.hid hlong
    clear hlong
    refine (read_long s _ HLG.out (by have := HS.out; omega)).mono ?_
    rintro e w1 ⟨rfl, hb1⟩
    have HZ1 : Hid (w1.heap[R]? = _) := Lib.hid ((hb1.block R (Array.getElem?_eq_some_iff.1 HZ0.out).1).trans HZ0.out)
    have HB1 := Lib.hid (HB0.out.trans (hb1.mono HB0.out.size))
    clear hb1
    clear c0 c1 c2 c3 c4 c5 c6 c7 c8 c9 c10
    obtain ⟨c0, c1, c2, c3, c4, c5, c6, c7, c8, c9, c10⟩ := op_cells HZ1.out
    go_wp2_with fail
    refine (refread_long s _ HLG.out (by have := HS.out; omega)).mono ?_
    rintro e w2 ⟨rfl, hb2⟩
    have HZ2 : Hid (w2.heap[R]? = _) := Lib.hid ((hb2.block R (Array.getElem?_eq_some_iff.1 HZ1.out).1).trans HZ1.out)
    have HB2 := Lib.hid (HB1.out.trans (hb2.mono HB1.out.size))
    clear hb2
    clear c0 c1 c2 c3 c4 c5 c6 c7 c8 c9 c10
    simp only [zeroP]
    have hT := heap_alloc_new w2 (.cells #[.int .i64 0, .int .i64 0, .string ⟨#[]⟩, .slice none 0 0] 27)
    have hba := alloc_below w2 (.cells #[.int .i64 0, .int .i64 0, .string ⟨#[]⟩, .slice none 0 0] 27)
    have HB3 := Lib.hid (HB2.out.trans (hba.mono HB2.out.size))
    obtain ⟨⟨p0, fp0⟩, ⟨p1, fp1⟩, ⟨p2, fp2⟩, ⟨p3, fp3⟩⟩ := zero_cells hT
    clear hT hba
    go_wp2_with fail
    refine (fits_err _ 2 (by decide) _ _ (zero_arg _)).mono ?_
    rintro e w4 ⟨rfl, hb4⟩
    have HB4 := Lib.hid (HB3.out.trans (hb4.mono HB3.out.size))
    clear hb4 p0 p1 p2 p3 fp0 fp1 fp2 fp3
    go_wp2_with fail
    go_ret
    exact ⟨rfl, HB4.out⟩
  · have HSM := Lib.hid (show s.size ≤ 1048576 by omega)
    clear hlong
    refine (read_short s _ HSM.out HT.out H5.out).mono ?_
    intro e w1 hq
    cases hr : readR s with
    | error pc =>
      obtain ⟨p, c⟩ := pc
      obtain ⟨_, hc⟩ := read_err hr
      have HCN := Lib.hid hc
      rw [hr] at hq
      obtain ⟨rfl, hb1⟩ : ReadP W (.error (p, c)) e w1 := hq
      have HRR := Lib.hid hr
      clear hr hc
      have HZ1 : Hid (w1.heap[R]? = _) := Lib.hid ((hb1.block R (Array.getElem?_eq_some_iff.1 HZ0.out).1).trans HZ0.out)
      have HB1 := Lib.hid (HB0.out.trans (hb1.mono HB0.out.size))
      clear hb1
      clear c0 c1 c2 c3 c4 c5 c6 c7 c8 c9 c10
      obtain ⟨c0, c1, c2, c3, c4, c5, c6, c7, c8, c9, c10⟩ := op_cells HZ1.out
      go_wp2_with fail
      refine (refread_short s _ HSM.out).mono ?_
      intro e w2 hq
      rw [HRR.out] at hq
      obtain ⟨rfl, hb2⟩ : RdX w1 (.error (p, c)) e w2 := hq
      have HZ2 : Hid (w2.heap[R]? = _) := Lib.hid ((hb2.block R (Array.getElem?_eq_some_iff.1 HZ1.out).1).trans HZ1.out)
      have HB2 := Lib.hid (HB1.out.trans (hb2.mono HB1.out.size))
      clear hb2
      clear c0 c1 c2 c3 c4 c5 c6 c7 c8 c9 c10
      simp only [zeroP]
      have hT := heap_alloc_new w2 (.cells #[.int .i64 0, .int .i64 0, .string ⟨#[]⟩, .slice none 0 0] 27)
      have hba := alloc_below w2 (.cells #[.int .i64 0, .int .i64 0, .string ⟨#[]⟩, .slice none 0 0] 27)
      have HB3 := Lib.hid (HB2.out.trans (hba.mono HB2.out.size))
      obtain ⟨⟨p0, fp0⟩, ⟨p1, fp1⟩, ⟨p2, fp2⟩, ⟨p3, fp3⟩⟩ := zero_cells hT
      clear hT hba
      go_wp2_with fail
      refine (fits_err _ c HCN.out _ _ (zero_arg _)).mono ?_
      rintro e w4 ⟨rfl, hb4⟩
      have HB4 := Lib.hid (HB3.out.trans (hb4.mono HB3.out.size))
      clear hb4 p0 p1 p2 p3 fp0 fp1 fp2 fp3
      go_wp2_with fail
      go_ret
      exact ⟨rfl, HB4.out⟩
    | ok t =>
      obtain ⟨m1, m2, m3⟩ := readR_spec hr
      have HM1 := Lib.hid m1
      have HM2 := Lib.hid m2
      have HM3 := Lib.hid m3
      rw [hr] at hq
      obtain ⟨v, vb, rfl, hrv, _, _, hb1⟩ : ReadP W (.ok t) e w1 := hq
      obtain ⟨ty, tu, rfl⟩ := hrv.iface
      have HRR := Lib.hid hr
      have HV1 := Lib.hid hrv
      clear hr m1 m2 m3 hrv
      have HZ1 : Hid (w1.heap[R]? = _) := Lib.hid ((hb1.block R (Array.getElem?_eq_some_iff.1 HZ0.out).1).trans HZ0.out)
      have HB1 := Lib.hid (HB0.out.trans (hb1.mono HB0.out.size))
      clear hb1
      clear c0 c1 c2 c3 c4 c5 c6 c7 c8 c9 c10
      obtain ⟨c0, c1, c2, c3, c4, c5, c6, c7, c8, c9, c10⟩ := op_cells HZ1.out
      go_wp2_with fail
      refine (refread_short s _ HSM.out).mono ?_
      intro e w2 hq
      rw [HRR.out] at hq
      obtain ⟨cs, cb, rfl, hh, hb2⟩ : RdX w1 (.ok t) e w2 := hq
      obtain ⟨k2, n2, s2, la2, ln2, lc2, rfl⟩ := hh.form
      have hT := heap_alloc_new w2 (.cells #[.int .i64 k2, .int .i64 n2, .string s2, .slice la2 ln2 lc2] 27)
      have hba := alloc_below w2 (.cells #[.int .i64 k2, .int .i64 n2, .string s2, .slice la2 ln2 lc2] 27)
      have hb3 := hb2.trans (hba.mono hb2.size)
      have HB3 := Lib.hid (HB1.out.trans (hb3.mono HB1.out.size))
      have HV3 := Lib.hid (RepV.keep (w' := w2.alloc (.cells #[.int .i64 k2, .int .i64 n2, .string s2, .slice la2 ln2 lc2] 27)) _ _ _ (fun g hg => hb3.block g (RepV.lt _ _ _ HV1.out g hg)) HV1.out)
      have HU3 := Lib.hid (hh.arg.below hba)
      obtain ⟨p0, fp0⟩ := heapcell hT 0
      obtain ⟨p1, fp1⟩ := heapcell hT 1
      obtain ⟨p2, fp2⟩ := heapcell hT 2
      obtain ⟨p3, fp3⟩ := heapcell hT 3
      clear hT hba hb3 hb2 hh c0 c1 c2 c3 c4 c5 c6 c7 c8 c9 c10
      go_wp2_with fail
      refine (fits_val t (plainOf t) _ _ _ _ HV3.out rfl HU3.out HM1.out HM2.out HM3.out).mono ?_
      rintro e w4 ⟨rfl, hb4⟩
      have HB4 := Lib.hid (HB3.out.trans (hb4.mono HB3.out.size))
      clear hb4 p0 p1 p2 p3 fp0 fp1 fp2 fp3
      go_wp2_with fail
      go_ret
      exact ⟨rfl, HB4.out⟩
end

section
theorem ex_read : readR ⟨#[91, 49, 44, 32, 121, 101, 115, 93]⟩ = .ok (.list [.int 1, .truth true]) := by kernel_rfl
theorem ex_007 : readR ⟨#[48, 48, 55]⟩ = .error (1, 5) := by kernel_rfl
theorem ex_text : textP (.mk 5 0 ⟨#[]⟩ [.mk 1 0 ⟨#[]⟩ [], .mk 4 0 ⟨#[97, 34]⟩ []]) = ([91, 117, 110, 105, 116, 44, 32, 34, 97, 92, 34, 34, 93], 0) := by kernel_rfl
end

section
open Go.RowKit
set_option maxRecDepth 100000
theorem step13 {W w w' : World} {b b' b'' : Nat} {v0 v1 v2 v3 u0 u1 u2 u3 t0 t1 t2 t3 : Value} (h : w.cell? ⟨b, 0, none⟩ = some v0 ∧ w.cell? ⟨b, 1, none⟩ = some v1 ∧ w.cell? ⟨b, 2, none⟩ = some v2 ∧ w.cell? ⟨b, 3, none⟩ = some v3 ∧ w.cell? ⟨b', 0, none⟩ = some u0 ∧ w.cell? ⟨b', 1, none⟩ = some u1 ∧ w.cell? ⟨b', 2, none⟩ = some u2 ∧ w.cell? ⟨b', 3, none⟩ = some u3 ∧ w.cell? ⟨b'', 0, none⟩ = some t0 ∧ w.cell? ⟨b'', 1, none⟩ = some t1 ∧ w.cell? ⟨b'', 2, none⟩ = some t2 ∧ w.cell? ⟨b'', 3, none⟩ = some t3 ∧ Below W.heap.size W w) (hb : Below w.heap.size w w') :
    w'.cell? ⟨b, 0, none⟩ = some v0 ∧ w'.cell? ⟨b, 1, none⟩ = some v1 ∧ w'.cell? ⟨b, 2, none⟩ = some v2 ∧ w'.cell? ⟨b, 3, none⟩ = some v3 ∧ w'.cell? ⟨b', 0, none⟩ = some u0 ∧ w'.cell? ⟨b', 1, none⟩ = some u1 ∧ w'.cell? ⟨b', 2, none⟩ = some u2 ∧ w'.cell? ⟨b', 3, none⟩ = some u3 ∧ w'.cell? ⟨b'', 0, none⟩ = some t0 ∧ w'.cell? ⟨b'', 1, none⟩ = some t1 ∧ w'.cell? ⟨b'', 2, none⟩ = some t2 ∧ w'.cell? ⟨b'', 3, none⟩ = some t3 ∧ Below W.heap.size W w' := by
  obtain ⟨h0, h1, h2, h3, h4, h5, h6, h7, h8, h9, h10, h11, h12⟩ := h
  exact ⟨cell_step h0 hb, cell_step h1 hb, cell_step h2 hb, cell_step h3 hb, cell_step h4 hb, cell_step h5 hb, cell_step h6 hb, cell_step h7 hb, cell_step h8 hb, cell_step h9 hb, cell_step h10 hb, cell_step h11 hb, below_step h12 hb⟩
theorem and13 {a1 a2 a3 a4 a5 a6 a7 a8 a9 a10 a11 a12 b : Prop} (h : a1 ∧ a2 ∧ a3 ∧ a4 ∧ a5 ∧ a6 ∧ a7 ∧ a8 ∧ a9 ∧ a10 ∧ a11 ∧ a12 ∧ b) : b := h.2.2.2.2.2.2.2.2.2.2.2.2
def ThreeBoxes (w W : World) (k0 n0 : Int) (s0 : ByteArray) (a0 : Option Addr) (l0 c0 : Nat) (k1 n1 : Int) (s1 : ByteArray) (a1 : Option Addr) (l1 c1 : Nat) (k2 n2 : Int) (s2 : ByteArray) (a2 : Option Addr) (l2 c2 : Nat) : Prop :=
  CellsP W w.heap.size 0 k0 n0 s0 a0 l0 c0 ∧ CellsP W (w.heap.size + 1) 0 k1 n1 s1 a1 l1 c1 ∧ CellsP W (w.heap.size + 2) 0 k2 n2 s2 a2 l2 c2 ∧ Below w.heap.size w W
theorem three_boxes (w : World) (k0 n0 : Int) (s0 : ByteArray) (a0 : Option Addr) (l0 c0 : Nat) (k1 n1 : Int) (s1 : ByteArray) (a1 : Option Addr) (l1 c1 : Nat) (k2 n2 : Int) (s2 : ByteArray) (a2 : Option Addr) (l2 c2 : Nat) :
    ThreeBoxes w (((w.alloc (.cells #[.int .i64 k0, .int .i64 n0, .string s0, .slice a0 l0 c0] 27)).alloc (.cells #[.int .i64 k1, .int .i64 n1, .string s1, .slice a1 l1 c1] 27)).alloc (.cells #[.int .i64 k2, .int .i64 n2, .string s2, .slice a2 l2 c2] 27)) k0 n0 s0 a0 l0 c0 k1 n1 s1 a1 l1 c1 k2 n2 s2 a2 l2 c2 := by
  have h0 := cells_new w (.int .i64 k0) (.int .i64 n0) (.string s0) (.slice a0 l0 c0) 27
  have h1 := cells_new (w.alloc (.cells #[.int .i64 k0, .int .i64 n0, .string s0, .slice a0 l0 c0] 27)) (.int .i64 k1) (.int .i64 n1) (.string s1) (.slice a1 l1 c1) 27
  have h2 := cells_new ((w.alloc (.cells #[.int .i64 k0, .int .i64 n0, .string s0, .slice a0 l0 c0] 27)).alloc (.cells #[.int .i64 k1, .int .i64 n1, .string s1, .slice a1 l1 c1] 27)) (.int .i64 k2) (.int .i64 n2) (.string s2) (.slice a2 l2 c2) 27
  have e1 : (w.alloc (.cells #[.int .i64 k0, .int .i64 n0, .string s0, .slice a0 l0 c0] 27)).heap.size = w.heap.size + 1 := by simp
  have e2 : ((w.alloc (.cells #[.int .i64 k0, .int .i64 n0, .string s0, .slice a0 l0 c0] 27)).alloc (.cells #[.int .i64 k1, .int .i64 n1, .string s1, .slice a1 l1 c1] 27)).heap.size = w.heap.size + 2 := by simp
  rw [e1] at h1
  rw [e2] at h2
  exact ⟨CellsP.below (alloc_below _ _) (CellsP.below (alloc_below _ _) h0), CellsP.below (alloc_below _ _) h1, h2, ((alloc_below w _).alloc (by rw [e1]; omega) _).alloc (by rw [e2]; omega) _⟩
theorem ret_true {b : Bool} (h : b = true) : Ending.returned (.bool b) = .returned (.bool true) := by rw [h]
theorem ret_tf {z y : Int} (hz : z ≠ 0) (hy : y ≠ 0) : Ending.returned (.bool (decide (0 < y) || (z == 0) == (y == 0))) = .returned (.bool true) := ret_true (by
  have h1 : (z == 0) = false := by simpa using hz
  have h2 : (y == 0) = false := by simpa using hy
  rw [h1, h2]; simp)
theorem ret_tz {z : Int} (hz : z ≠ 0) (a b : Bool) : Ending.returned (.bool (a || b || !z == 0)) = .returned (.bool true) := ret_true (by
  have h1 : (z == 0) = false := by simpa using hz
  rw [h1]; simp)
end

section
open Go.RowKit
set_option maxRecDepth 100000
set_option maxHeartbeats 1000000 in
/-- The law's own 'num'. -/
theorem num_any (n : Int) (w : World) : Calls Tryz.prog 7 #[.int .i64 n] w fun e w' => e = .returned (.agg #[.int .i64 3, .int .i64 n, .string ⟨#[]⟩, .slice none 0 0]) ∧ Below w.heap.size w w' := by
  go_enter Tryz.func7, Tryz.ntmps7
  go_wp2_with fail
  exact bodyPost_ret (v := .agg #[.int .i64 3, .int .i64 n, .string ⟨#[]⟩, .slice none 0 0]) (by simp [results, Tryz.results7, go_sem]) rfl ⟨rfl, (Below.refl _ _).alloc (Nat.le_refl _) _⟩
set_option maxHeartbeats 1000000 in
/-- The law's own 'text'. -/
theorem textp_any (t : ByteArray) (w : World) : Calls Tryz.prog 10 #[.string t] w fun e w' => e = .returned (.agg #[.int .i64 4, .int .i64 0, .string t, .slice none 0 0]) ∧ Below w.heap.size w w' := by
  go_enter Tryz.func10, Tryz.ntmps10
  go_wp2_with fail
  exact bodyPost_ret (v := .agg #[.int .i64 4, .int .i64 0, .string t, .slice none 0 0]) (by simp [results, Tryz.results10, go_sem]) rfl ⟨rfl, (Below.refl _ _).alloc (Nat.le_refl _) _⟩
set_option maxHeartbeats 1000000 in
/-- The law's own 'list'. -/
theorem listp_any (la : Option Addr) (ln lc : Nat) (w : World) : Calls Tryz.prog 9 #[.slice la ln lc] w fun e w' => e = .returned (.agg #[.int .i64 5, .int .i64 0, .string ⟨#[]⟩, .slice la ln lc]) ∧ Below w.heap.size w w' := by
  go_enter Tryz.func9, Tryz.ntmps9
  go_wp2_with fail
  exact bodyPost_ret (v := .agg #[.int .i64 5, .int .i64 0, .string ⟨#[]⟩, .slice la ln lc]) (by simp [results, Tryz.results9, go_sem]) rfl ⟨rfl, (Below.refl _ _).alloc (Nat.le_refl _) _⟩
end

section
open Go.RowKit
set_option maxRecDepth 100000
theorem arg_num (n : Int) (w : World) : ArgP w (.mk 3 n ⟨#[]⟩ []) (.agg #[.int .i64 3, .int .i64 n, .string ⟨#[]⟩, .slice none 0 0]) := ⟨by decide, by decide, none, 0, rfl, by simp⟩
theorem arg_text (t : ByteArray) (ht : t.size ≤ 140737488355328) (w : World) : ArgP w (.mk 4 0 t []) (.agg #[.int .i64 4, .int .i64 0, .string t, .slice none 0 0]) := ⟨ht, by decide, none, 0, rfl, by simp⟩
theorem arg_zero (w : World) : ArgP w (.mk 0 0 ⟨#[]⟩ []) (.agg #[.int .i64 0, .int .i64 0, .string ⟨#[]⟩, .slice none 0 0]) := ⟨by decide, by decide, none, 0, rfl, by simp⟩
theorem pair_in (w : World) : InPs (w.alloc (.cells #[.int .i64 1, .int .i64 0, .string ⟨#[]⟩, .slice none 0 0, .int .i64 4, .int .i64 0, .string ⟨#[97, 34]⟩, .slice none 0 0] 27)) w.heap.size 0 [.mk 1 0 ⟨#[]⟩ [], .mk 4 0 ⟨#[97, 34]⟩ []] := by
  have h := fun j => Lib.cell_of_heap (heap_alloc_new w (.cells #[.int .i64 1, .int .i64 0, .string ⟨#[]⟩, .slice none 0 0, .int .i64 4, .int .i64 0, .string ⟨#[97, 34]⟩, .slice none 0 0] 27)) j
  exact ⟨⟨by decide, by decide, none, 0, ⟨(h 0).trans rfl, (h 1).trans rfl, (h 2).trans rfl, (h 3).trans rfl⟩, by simp⟩, ⟨by decide, by decide, none, 0, ⟨(h 4).trans rfl, (h 5).trans rfl, (h 6).trans rfl, (h 7).trans rfl⟩, by simp⟩, trivial⟩
set_option maxHeartbeats 4000000 in
theorem begun_any (w : World) (ht : Tabs w) (h5 : 5 ≤ w.heap.size) : Calls Tryz.prog 4 #[] w (RetB w (.bool true)) := by
  have HT := Lib.hid ht
  clear ht
  go_enter Tryz.func4, Tryz.ntmps4
  go_wp2_with fail
  refine (num_any _ _).mono ?_
  rintro e w1 ⟨rfl, hb1⟩
  have B1 := hb1
  clear hb1
  go_wp2_with fail
  refine (of_yes _ _ _ (arg_num 5 w1) (by kernel_rfl)).mono ?_
  rintro e w2 ⟨v, bs, rfl, hv, _, _, hb2⟩
  obtain ⟨rfl, _⟩ : v = .iface 37 (.int .i64 5) ∧ bs = [] := hv
  have B2 := B1.trans (hb2.mono B1.size)
  clear hb2 B1
  go_wp2_with fail
  refine (textp_any _ _).mono ?_
  rintro e w3 ⟨rfl, hb3⟩
  have B3 := B2.trans (hb3.mono B2.size)
  clear hb3 B2
  go_wp2_with fail
  refine (listp_any _ _ _ _).mono ?_
  rintro e w4 ⟨rfl, hb4⟩
  have B4 : Below w.heap.size w w4 := (B3.trans ((alloc_below' w3 _).mono B3.size)).trans (hb4.mono (by have := B3.size; simp; omega))
  have HA := Lib.hid (InPs.below hb4 _ _ _ (pair_in w3))
  clear hb4 B3
  go_wp2_with fail
  refine (text_any (.mk 5 0 ⟨#[]⟩ [.mk 1 0 ⟨#[]⟩ [], .mk 4 0 ⟨#[97, 34]⟩ []]) _ _ ⟨by decide, by decide, _, 2, rfl, fun _ => ⟨_, _, rfl, HA.out⟩⟩ (by simp [okP, okPs]) (HT.out.below B4 h5) (Nat.le_trans h5 B4.size)).mono ?_
  rw [ex_text]
  rintro e w5 ⟨rfl, hb5⟩
  have B5 := B4.trans (hb5.mono B4.size)
  clear hb5 B4 HA
  go_wp2_with fail
  refine (read_short _ _ (by decide) (HT.out.below B5 h5) (Nat.le_trans h5 B5.size)).mono ?_
  rw [ex_read]
  intro e w6 hq
  obtain ⟨v, bs, rfl, hrv, _, _, hb6⟩ : ReadP w5 (.ok (.list [.int 1, .truth true])) e w6 := hq
  obtain ⟨sv, vs, bl, rfl, hown, hrs, _⟩ := hrv
  obtain ⟨v0, vr, c0, cr, rfl, _, hv0, v1, vr1, c1, cr1, rfl, _, hv1, rfl, _⟩ := hrs
  obtain ⟨rfl, _⟩ : v0 = .iface 37 (.int .i64 1) ∧ c0 = [] := hv0
  obtain ⟨rfl, _⟩ : v1 = .iface 48 (.bool true) ∧ c1 = [] := hv1
  obtain ⟨la, lc, rfl, _, hca⟩ := own_cells hown
  obtain ⟨g, rfl, hg⟩ := hca (by decide)
  have B6 := B5.trans (hb6.mono B5.size)
  have q0 : w6.cell? ⟨g, 0, none⟩ = some (.iface 37 (.int .i64 1)) := hg 0 _ rfl
  have q1 : w6.cell? ⟨g, 1, none⟩ = some (.iface 48 (.bool true)) := hg 1 _ rfl
  clear hb6 B5 hown hca hg
  have Q0 := Lib.hid q0
  have Q1 := Lib.hid q1
  clear q0 q1
  go_wp2_with fail
  refine (read_short _ _ (by decide) (HT.out.below B6 h5) (Nat.le_trans h5 B6.size)).mono ?_
  rw [ex_007]
  intro e w7 hq
  obtain ⟨rfl, hb7⟩ : ReadP w6 (.error (1, 5)) e w7 := hq
  have B7 := B6.trans (hb7.mono B6.size)
  have Q0 := Lib.hid (cell_step Q0.out hb7)
  have Q1 := Lib.hid (cell_step Q1.out hb7)
  clear hb7 B6
  go_wp2_with fail
  refine (of_no _ _ _ (arg_zero w7) (by kernel_rfl)).mono ?_
  rintro e w8 ⟨rfl, hb8⟩
  have B8 := B7.trans (hb8.mono B7.size)
  have q0 := cell_step Q0.out hb8
  have q1 := cell_step Q1.out hb8
  clear hb8 B7
  go_wp2_with fail
  refine (textp_any _ _).mono ?_
  rintro e w9 ⟨rfl, hb9⟩
  have B9 := B8.trans (hb9.mono B8.size)
  clear hb9 B8 q0 q1
  go_wp2_with fail
  refine (size_any _ _ _ (arg_text ⟨#[97, 98]⟩ (by decide) w9)).mono ?_
  rw [show sizeP (.mk 4 0 ⟨#[97, 98]⟩ []) = 3 from by kernel_rfl]
  rintro e w10 ⟨rfl, hb10⟩
  have B10 := B9.trans (hb10.mono B9.size)
  clear hb10 B9
  go_wp2_with fail
  refine (num_any _ _).mono ?_
  rintro e w11 ⟨rfl, hb11⟩
  have B11 := B10.trans (hb11.mono B10.size)
  clear hb11 B10
  go_wp2_with fail
  refine (textp_any _ _).mono ?_
  rintro e w12 ⟨rfl, hb12⟩
  have B12 := B11.trans (hb12.mono B11.size)
  clear hb12 B11
  go_wp2_with fail
  refine (compare_walk _ _ _ _ _ (arg_num 5 w12) (arg_text ⟨#[]⟩ (by decide) w12)).mono ?_
  rw [show compP (.mk 3 5 ⟨#[]⟩ []) (.mk 4 0 ⟨#[]⟩ []) = -1 from by kernel_rfl]
  rintro e w13 ⟨rfl, hb13⟩
  have B13 := B12.trans (hb13.mono B12.size)
  clear hb13 B12
  go_wp2_with fail
  refine (num_any _ _).mono ?_
  rintro e w14 ⟨rfl, hb14⟩
  have B14 := B13.trans (hb14.mono B13.size)
  clear hb14 B13
  go_wp2_with fail
  refine (num_any _ _).mono ?_
  rintro e w15 ⟨rfl, hb15⟩
  have B15 := B14.trans (hb15.mono B14.size)
  clear hb15 B14
  go_wp2_with fail
  refine (same_any _ _ _ _ _ (arg_num 1 w15) (arg_num 1 w15)).mono ?_
  rw [show sameP (.mk 3 1 ⟨#[]⟩ []) (.mk 3 1 ⟨#[]⟩ []) = true from by kernel_rfl]
  rintro e w16 ⟨rfl, hb16⟩
  have B16 := B15.trans (hb16.mono B15.size)
  clear hb16 B15
  go_wp2_with fail
  go_ret
  exact ⟨rfl, B16⟩
end
end Go.Proofs.YtkpnnhebfaggeaaGreatDoor
