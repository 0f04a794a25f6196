/-
  The law NodeSized returns true whatever the input: frames of 1 to 65 kids, uses of 1 to 64, chains up to 64 deep.
  Conditions: none.
-/
import Derived.Test.YtlpgfdhihimjaaaKitD
import Derived.Test.YtlpgfdhihimjaaaKitB
import Derived.Test.YtlpgfdhihimjaaaRows
import Derived.WalkKit
import Derived.ProofKit
import Derived.OpenShut
set_option linter.unusedVariables false
set_option linter.unusedSimpArgs false
namespace Go.Proofs.Ytlpgfdhihimjaaa
section
open Go.RowKit
set_option maxRecDepth 100000
theorem info29 : (Try.prog.info? 29).map (fun i => (i.zero, i.size, i.bytes)) = some (some (.pointer none), 1, 8) := by kernel_rfl
@[go_sem] theorem as91_41 (v : Value) (w : World) : (Instr.typeAssert (.iface 91 v) 44 41 true).run Try.prog w = .ok (.tuple #[.iface 91 v, .bool true]) w := by kernel_rfl
/-- What stays: the unit's handle and node. -/
structure SzQ (w : World) (hb nb : Nat) (wr : World) : Prop where
  b : Below w.heap.size w wr
  h : HdAt wr hb 97 (.pointer (some ⟨nb, 0, none⟩))
  l : LitAt wr nb
theorem LitAt.below {w w' : World} {nb : Nat} (h : LitAt w nb) (hb : Below w.heap.size w w') : LitAt w' nb := by
  obtain ⟨cs, h1, h2⟩ := h
  exact ⟨cs, heap_keep h1 hb, h2⟩
theorem SzQ.below {w : World} {hb nb : Nat} {wr w' : World} (h : SzQ w hb nb wr) (hb' : Below wr.heap.size wr w') : SzQ w hb nb w' := ⟨below_step h.b hb', heap_keep h.h hb', h.l.below hb'⟩
theorem SzQ.part {w : World} {hb nb b : Nat} {w2 wr w' : World} (h2 : SzQ w hb nb w2) (_ : SzQ w hb nb wr) (hs : w2.heap.size ≤ b) (hB : Below w2.heap.size w2 wr) (hb' : Below b wr w') : SzQ w hb nb w' := by
  have h3 : Below w2.heap.size w2 w' := hB.trans (hb'.mono hs)
  exact h2.below h3
/-- The chain so far. -/
structure SzC (w : World) (i : Nat) (hv : Value) (wr : World) : Prop where
  b : Below w.heap.size w wr
  n : ∃ hb t u, hv = .pointer (some ⟨hb, 0, none⟩) ∧ HdAt wr hb t u ∧ NdAt wr i (.iface t u)
theorem hs_rep {w : World} {lv : Value} {n hb base : Nat} {t : TypeId} {u : Value} (ho : w.ownsRow base 29 1 lv n (List.replicate n (.pointer (some ⟨hb, 0, none⟩)))) (hh : HdAt w hb t u) : HsN w (List.replicate n hb) (List.replicate n (.iface t u)) lv := by
  obtain ⟨la, lc, rfl⟩ := own_slice ho
  refine ⟨by simp, ⟨la, lc, by simp, fun h0 => ?_, fun b hb' => ?_⟩, fun j b hj => ?_⟩
  · rcases ho.2 with ⟨e, e0⟩ | ⟨g, cap, cur, e, _⟩
    · simp at h0; omega
    · simp only [Value.slice.injEq, true_and] at e
      refine ⟨g, e.1, fun j b hj => ?_⟩
      have hjn : j < n := by have := (List.getElem?_eq_some_iff.1 hj).1; simpa using this
      have hb2 : b = hb := by
        rw [List.getElem?_replicate, if_pos hjn] at hj
        exact (Option.some.inj hj).symm
      subst hb2
      have := ho.cells (g := g) (by simp [Value.ownBlock, e.1]) j (.pointer (some ⟨b, 0, none⟩)) (by rw [List.getElem?_replicate, if_pos hjn])
      rw [show (⟨g, 0, none⟩ : Addr).add j = ⟨g, j, none⟩ from by unfold Addr.add; split <;> simp_all] at this
      exact this
  · have : b = hb := by simpa using (List.mem_replicate.1 hb').2
    subst this
    exact ⟨t, u, hh⟩
  · rw [List.getElem?_replicate] at hj
    split at hj
    · rename_i hjn
      have : hb = b := Option.some.inj hj
      subst this
      exact ⟨t, u, by rw [List.getElem?_replicate, if_pos hjn], hh⟩
    · cases hj
theorem hs_one {w : World} {hb : Nat} {t : TypeId} {u : Value} (hh : HdAt w hb t u) : HsN (w.alloc (.cells #[.pointer (some ⟨hb, 0, none⟩)] 29)) [hb] [.iface t u] (.slice (some ⟨w.heap.size, 0, none⟩) 1 1) := by
  have hb0 := alloc_below w (.cells #[.pointer (some ⟨hb, 0, none⟩)] 29)
  have hn := heap_alloc_new w (.cells #[.pointer (some ⟨hb, 0, none⟩)] 29)
  refine ⟨rfl, ⟨_, 1, rfl, fun _ => ⟨_, rfl, fun j b hj => ?_⟩, fun b hb' => ?_⟩, fun j b hj => ?_⟩
  · cases j with
    | zero => simp at hj; subst hj; rw [(heapcell hn 0).1]; rfl
    | succ j => simp at hj
  · simp at hb'; subst hb'; exact ⟨t, u, heap_keep hh hb0⟩
  · cases j with
    | zero => simp at hj; subst hj; exact ⟨t, u, rfl, heap_keep hh hb0⟩
    | succ j => simp at hj
theorem SzC.next {w : World} {i hb nb base : Nat} {t : TypeId} {u kv : Value} {wr w' : World} (hB : Below w.heap.size w wr) (hn : NdAt wr i (.iface t u)) (hb' : Below wr.heap.size wr w') (h1 : HdAt w' hb 91 (.pointer (some ⟨nb, 0, none⟩)))
    (h2 : w'.heap[nb]? = some (.cells #[.string ⟨#[98, 97, 115, 101, 46, 102, 114, 97, 109, 101]⟩, .int .i64 0, .string ⟨#[]⟩, kv] 95 (0, 0))) (h3 : w'.ownsRow base 44 1 kv 1 [.iface t u]) : SzC w (i + 1) (.pointer (some ⟨hb, 0, none⟩)) w' := by
  refine ⟨below_step hB hb', hb, 91, _, rfl, h1, ?_⟩
  rcases h3.2 with ⟨e, e0⟩ | ⟨g, cap, cur, e, _, hg, _, _, _, ht⟩
  · omega
  · subst e
    refine ⟨nb, g, cap, .iface t u, cur, rfl, h2, hg, ?_, NdAt.below hb' i _ hn⟩
    have : cur.toList[0]? = some (.iface t u) := by
      have h := congrArg (·[0]?) ht
      simp only [List.getElem?_take] at h
      simpa using h
    simpa using this
set_option maxHeartbeats 8000000 in
theorem law_sized (kids use deep : Int) (hu : -9223372036854775808 ≤ use ∧ use ≤ 9223372036854775807) (w : World) : Calls Try.prog 4 #[.int .i64 kids, .int .i64 use, .int .i64 deep] w (RetB w (.bool true)) := by
  obtain ⟨i29, hi29, hy0, hy1, hy2⟩ := info_parts info29
  have HI := Lib.hid (And.intro hi29 (And.intro hy0 (And.intro hy1 hy2)))
  clear hi29 hy0 hy1 hy2
  have HU := Lib.hid hu
  clear hu
  go_enter Try.func4, Try.ntmps4
  go_wp2_with fail
  refine (begun_any w).mono ?_
  rintro e w1 ⟨rfl, hb1⟩
  have HB1 := Lib.hid hb1
  clear hb1
  by_cases hbad : kids < 0 ∨ 2000 < kids ∨ deep < 0 ∨ 200 < deep
  · have hbad' : kids < 0 ∨ (¬ kids < 0 ∧ 2000 < kids) ∨ (¬ kids < 0 ∧ ¬ 2000 < kids ∧ deep < 0) ∨ (¬ kids < 0 ∧ ¬ 2000 < kids ∧ ¬ deep < 0 ∧ 200 < deep) := by omega
    clear hbad
    rcases hbad' with h1 | ⟨h1, h2⟩ | ⟨h1, h2, h3⟩ | ⟨h1, h2, h3, h4⟩
    all_goals
      go_wp2_with fail
      go_ret
      exact ⟨rfl, HB1.out⟩
  · obtain ⟨n, rfl⟩ : ∃ n : Nat, kids = n := ⟨kids.toNat, by omega⟩
    obtain ⟨d, rfl⟩ : ∃ d : Nat, deep = d := ⟨deep.toNat, by omega⟩
    have h1 : ¬ (n : Int) < 0 := by omega
    have h2 : ¬ 2000 < (n : Int) := by omega
    have h3 : ¬ (d : Int) < 0 := by omega
    have h4 : ¬ 200 < (d : Int) := by omega
    clear hbad
    go_wp2_with fail
    refine (unit_any w1).mono ?_
    rintro e w2 ⟨hb, nb, rfl, hH, hL, _, hb2⟩
    have HQ2 : Hid (SzQ w hb nb w2) := Lib.hid ⟨below_step HB1.out hb2, hH, hL⟩
    clear hH hL hb2 HB1
    go_wp2_with fail
    go_loopw [9, 10] (fun lv iv wr => ∃ i : Nat, i ≤ n ∧ iv = .int .i64 i ∧ Hid (wr.ownsRow w2.heap.size 29 1 lv i (List.replicate i (.pointer (some ⟨hb, 0, none⟩)))) ∧ Hid (Below w2.heap.size w2 wr)) (fun _ iv _ => n - (intOf iv).toNat)
    case atStart => exact ⟨0, by omega, rfl, Lib.hid ⟨by simp, .inl ⟨rfl, rfl⟩⟩, Lib.hid (Below.refl _ _)⟩
    case round =>
      obtain ⟨i, hi, rfl, HO, HB⟩ := hrel
      by_cases hlt : i < n
      · have hltI : (i : Int) < (n : Int) := by omega
        go_wp2_with (at_builtin; refine wpList_append_own_at _ rfl _ _ 37 rfl w2.heap.size 29 i29 (.pointer none) 1 8 Try.underlying37 HI.out.1 HI.out.2.1 HI.out.2.2.1 HI.out.2.2.2 rfl (by decide) _ _ _ rfl (HO.out.alloc _) ⟨wr.heap.size, 0, none⟩ 1 1 [.pointer (some ⟨hb, 0, none⟩)] rfl rfl ?c1 ?c2 ?c3 ?c4 ?c5 ?_)
        case c1 => exact one_new _ _ _
        case c2 => intro u hu; simp at hu; subst hu; rfl
        case c3 => unfold maxLen; omega
        case c4 => omega
        case c5 => have := HB.out.size; simp; omega
        intro lv' w3 hown hgrow _ _
        have HO3 := Lib.hid hown
        have HB3 := Lib.hid ((HB.out.alloc HB.out.size _).grown hgrow (by have := HB.out.size; simp; omega) (fun k hk => (HO.out.lt k hk).1))
        clear hown hgrow
        go_wp2_with fail
        go_roundw
        case rel => exact ⟨i + 1, by omega, by go_num, Lib.hid (by rw [List.replicate_succ']; exact HO3.out), HB3⟩
        case measure => simp [intOf]; omega
      · obtain rfl : i = n := by omega
        have hltI : ¬ ((i : Int) < (i : Int)) := by omega
        obtain ⟨la, lc, hlv⟩ := own_slice HO.out
        subst hlv
        have HQ3 := Lib.hid (HQ2.out.below HB.out)
        have HHS := Lib.hid (hs_rep HO.out HQ3.out.h)
        clear HO
        by_cases hin : 1 ≤ i ∧ i ≤ 65
        · go_wp2_with fail
          refine (make_frame_ok wr _ _ _ HHS.out (by simpa using hin.1) (by simpa using hin.2)).mono ?_
          rintro e w4 ⟨h4b, n4, kv, rfl, hh4, hn4, ho4, _, hb4⟩
          have HQ4 := Lib.hid (HQ3.out.below hb4)
          rw [List.length_replicate] at ho4
          obtain ⟨ka, kc, rfl⟩ := own_slice ho4
          have HH4 := Lib.hid hh4
          have HN4 := Lib.hid hn4
          clear hh4 hn4 ho4 hb4
          have hiI : (1 : Int) ≤ (i : Int) ∧ (i : Int) ≤ 65 := by omega
          obtain ⟨hi1, hi2⟩ := hiI
          go_wp2_with fail
          refine (node_any w4 h4b _ _ HH4.out).mono ?_
          rintro e w' ⟨rfl, hw'⟩
          obtain rfl := hw'.symm
          go_wp2_with fail
          refine (frames_m w4 n4 _ ka i kc (by omega) ⟨(heapcell HN4.out 0).1, (heapcell HN4.out 1).1, (heapcell HN4.out 2).1, (heapcell HN4.out 3).1⟩).mono ?_
          rintro e w' ⟨rfl, hw'⟩
          obtain rfl := hw'.symm
          go_wp2_with fail
          refine (digits_any _ use HU.out).mono ?_
          rintro e w5 ⟨rfl, hb5⟩
          have HQ5 := Lib.hid (HQ4.out.below hb5)
          clear hb5
          go_wp2_with fail
          refine (make_var w5 _ (by rw [list_size]; have := Lib.itoa_length_le use HU.out.1 HU.out.2; omega) (decide (1 ≤ use ∧ use ≤ 64)) (use_any use HU.out)).mono ?_
          rintro e w6 ⟨hv6, ev6, rfl, hE, hb6⟩
          have HQ6 := Lib.hid (HQ5.out.below hb6)
          clear hb6
          go_upto_region 21 with fail
          go_cut [104] from 96 to 104 (fun s104 wx => s104 = .bool false ∧ Hid (SzQ w hb nb wx))
          case first =>
            rcases hE with ⟨hu1, rfl⟩ | ⟨hu1, x, rfl⟩
            · obtain ⟨hu2, hu3⟩ := of_decide_eq_true hu1
              clear hu1
              go_wp2_with fail
              go_meet
              exact ⟨rfl, HQ6⟩
            · have hu2 := of_decide_eq_false hu1
              clear hu1
              by_cases hu3 : 1 ≤ use
              · have hu4 : ¬ use ≤ 64 := fun h => hu2 ⟨hu3, h⟩
                clear hu2
                go_wp2_with fail
                go_meet
                exact ⟨rfl, HQ6⟩
              · clear hu2
                go_wp2_with fail
                go_meet
                exact ⟨rfl, HQ6⟩
          case rest =>
            obtain ⟨rfl, HQ7⟩ := hcut
            clear hE
            go_wp2_with fail
            go_loopw [11, 14] (fun hv iv wr => ∃ j : Nat, j ≤ d ∧ iv = .int .i64 j ∧ Hid (SzC w j hv wr)) (fun _ iv _ => d - (intOf iv).toNat)
            case atStart => exact ⟨0, by omega, rfl, Lib.hid ⟨HQ7.out.b, hb, 97, _, rfl, HQ7.out.h, nb, rfl, HQ7.out.l⟩⟩
            case round =>
              obtain ⟨j, hj, rfl, HC⟩ := hrel
              obtain ⟨hb', t', u', rfl, hh, hn⟩ := HC.out.n
              have HHh := Lib.hid hh
              have HNn := Lib.hid hn
              clear hh hn
              by_cases hlt : j < d
              · have hltI : (j : Int) < (d : Int) := by omega
                go_wp2_with fail
                refine (make_frame_ok _ [hb'] [.iface t' u'] _ (hs_one HHh.out) (by simp) (by simp)).mono ?_
                rintro e w8 ⟨h8, n8, kv, rfl, hh8, hn8, ho8, _, hb8⟩
                have HC8 := Lib.hid (SzC.next HC.out.b HNn.out (below_step (alloc_below wr _) hb8) hh8 hn8 ho8)
                clear hh8 hn8 ho8 hb8
                go_wp2_with fail
                go_roundw
                case rel => exact ⟨j + 1, by omega, by go_num, HC8⟩
                case measure => simp [intOf]; omega
              · obtain rfl : j = d := by omega
                have hltI : ¬ ((j : Int) < (j : Int)) := by omega
                go_wp2_with fail
                refine (plainH_any wr hb' j t' u' HHh.out HNn.out (decide (1 + j ≤ 64)) rfl).mono ?_
                rintro e w9 ⟨hP, hb9⟩
                have HB9 := Lib.hid (below_step HC.out.b hb9)
                by_cases h64 : 1 + j ≤ 64
                · have h64I : (j : Int) + 1 ≤ 64 := by omega
                  rw [decide_eq_true h64] at hP
                  obtain ⟨s, la', ln', lc', rfl, hs⟩ : ∃ s la ln lc, e = .returned (.tuple #[.agg #[.string s, .int .i64 0, .string ⟨#[]⟩, .slice la ln lc], .nilIface]) ∧ s.toList.isEmpty = false := hP
                  clear hb9
                  go_wp2_with fail
                  go_ret
                  exact ⟨rfl, below_allocA HB9.out _⟩
                · have h64I : ¬ (j : Int) + 1 ≤ 64 := by omega
                  rw [decide_eq_false h64] at hP
                  obtain ⟨b, rfl, hbc, hsz⟩ : ∃ b, e = .returned (.tuple #[.agg #[.string ⟨#[]⟩, .int .i64 0, .string ⟨#[]⟩, .slice none 0 0], .iface 139 (.pointer (some ⟨b, 0, none⟩))]) ∧ w9.heap[b]? = some (.cells #[.int .i64 2] 141 (0, 0)) ∧ wr.heap.size ≤ b := hP
                  have HI2 := Lib.hid (is_2 _ b (heap_keep hbc (alloc_below w9 (.cells #[.string ⟨#[]⟩, .int .i64 0, .string ⟨#[]⟩, .slice none 0 0] 36))))
                  have HSZ := Lib.hid (Nat.le_trans HC.out.b.size hsz)
                  clear hbc hsz hb9
                  go_wp2_with fail
                  refine HI2.out.mono ?_
                  rintro e w10 ⟨rfl, hb10⟩
                  have HB10 := Lib.hid ((below_allocA HB9.out (.cells #[.string ⟨#[]⟩, .int .i64 0, .string ⟨#[]⟩, .slice none 0 0] 36)).trans (hb10.mono HSZ.out))
                  clear hb10
                  go_wp2_with fail
                  go_ret
                  exact ⟨rfl, HB10.out⟩
        · go_wp2_with fail
          refine (make_frame_no wr _ _ HHS.out.arg (by simpa using (by omega : i ≤ 2000)) (by simpa using hin)).mono ?_
          rintro e w4 ⟨b4, rfl, hs4, hc4, hb4⟩
          have HQ4 := Lib.hid (HQ3.out.below hb4)
          have HI4 := Lib.hid (is_11 w4 b4 hc4)
          have HB4 := Lib.hid (hb4)
          have HS4 := Lib.hid hs4
          clear hs4 hc4 hb4
          have hdis : (i : Int) < 1 ∨ ((1 : Int) ≤ (i : Int) ∧ (65 : Int) < (i : Int)) := by omega
          clear hin
          rcases hdis with hi1 | ⟨hi1, hi2⟩
          all_goals
            go_wp2_with fail
            refine HI4.out.mono ?_
            rintro e w5' ⟨rfl, hb5'⟩
            have HQ5' := Lib.hid (HQ3.out.part HQ4.out HS4.out HB4.out hb5')
            clear hb5'
            go_wp2_with fail
            refine (digits_any w5' use HU.out).mono ?_
            rintro e w5 ⟨rfl, hb5⟩
            have HQ5 := Lib.hid (HQ5'.out.below hb5)
            clear hb5
            go_wp2_with fail
            refine (make_var w5 _ (by rw [list_size]; have := Lib.itoa_length_le use HU.out.1 HU.out.2; omega) (decide (1 ≤ use ∧ use ≤ 64)) (use_any use HU.out)).mono ?_
            rintro e w6 ⟨hv6, ev6, rfl, hE, hb6⟩
            have HQ6 := Lib.hid (HQ5.out.below hb6)
            clear hb6
            go_upto_region 21 with fail
            go_cut [104] from 96 to 104 (fun s104 wx => s104 = .bool false ∧ Hid (SzQ w hb nb wx))
            case first =>
              rcases hE with ⟨hu1, rfl⟩ | ⟨hu1, x, rfl⟩
              · obtain ⟨hu2, hu3⟩ := of_decide_eq_true hu1
                clear hu1
                go_wp2_with fail
                go_meet
                exact ⟨rfl, HQ6⟩
              · have hu2 := of_decide_eq_false hu1
                clear hu1
                by_cases hu3 : 1 ≤ use
                · have hu4 : ¬ use ≤ 64 := fun h => hu2 ⟨hu3, h⟩
                  clear hu2
                  go_wp2_with fail
                  go_meet
                  exact ⟨rfl, HQ6⟩
                · clear hu2
                  go_wp2_with fail
                  go_meet
                  exact ⟨rfl, HQ6⟩
            case rest =>
              obtain ⟨rfl, HQ7⟩ := hcut
              clear hE
              go_wp2_with fail
              go_loopw [11, 14] (fun hv iv wr => ∃ j : Nat, j ≤ d ∧ iv = .int .i64 j ∧ Hid (SzC w j hv wr)) (fun _ iv _ => d - (intOf iv).toNat)
              case atStart => exact ⟨0, by omega, rfl, Lib.hid ⟨HQ7.out.b, hb, 97, _, rfl, HQ7.out.h, nb, rfl, HQ7.out.l⟩⟩
              case round =>
                obtain ⟨j, hj, rfl, HC⟩ := hrel
                obtain ⟨hb', t', u', rfl, hh, hn⟩ := HC.out.n
                have HHh := Lib.hid hh
                have HNn := Lib.hid hn
                clear hh hn
                by_cases hlt : j < d
                · have hltI : (j : Int) < (d : Int) := by omega
                  go_wp2_with fail
                  refine (make_frame_ok _ [hb'] [.iface t' u'] _ (hs_one HHh.out) (by simp) (by simp)).mono ?_
                  rintro e w8 ⟨h8, n8, kv, rfl, hh8, hn8, ho8, _, hb8⟩
                  have HC8 := Lib.hid (SzC.next HC.out.b HNn.out (below_step (alloc_below wr _) hb8) hh8 hn8 ho8)
                  clear hh8 hn8 ho8 hb8
                  go_wp2_with fail
                  go_roundw
                  case rel => exact ⟨j + 1, by omega, by go_num, HC8⟩
                  case measure => simp [intOf]; omega
                · obtain rfl : j = d := by omega
                  have hltI : ¬ ((j : Int) < (j : Int)) := by omega
                  go_wp2_with fail
                  refine (plainH_any wr hb' j t' u' HHh.out HNn.out (decide (1 + j ≤ 64)) rfl).mono ?_
                  rintro e w9 ⟨hP, hb9⟩
                  have HB9 := Lib.hid (below_step HC.out.b hb9)
                  by_cases h64 : 1 + j ≤ 64
                  · have h64I : (j : Int) + 1 ≤ 64 := by omega
                    rw [decide_eq_true h64] at hP
                    obtain ⟨s, la', ln', lc', rfl, hs⟩ : ∃ s la ln lc, e = .returned (.tuple #[.agg #[.string s, .int .i64 0, .string ⟨#[]⟩, .slice la ln lc], .nilIface]) ∧ s.toList.isEmpty = false := hP
                    clear hb9
                    go_wp2_with fail
                    go_ret
                    exact ⟨rfl, below_allocA HB9.out _⟩
                  · have h64I : ¬ (j : Int) + 1 ≤ 64 := by omega
                    rw [decide_eq_false h64] at hP
                    obtain ⟨b, rfl, hbc, hsz⟩ : ∃ b, e = .returned (.tuple #[.agg #[.string ⟨#[]⟩, .int .i64 0, .string ⟨#[]⟩, .slice none 0 0], .iface 139 (.pointer (some ⟨b, 0, none⟩))]) ∧ w9.heap[b]? = some (.cells #[.int .i64 2] 141 (0, 0)) ∧ wr.heap.size ≤ b := hP
                    have HI2 := Lib.hid (is_2 _ b (heap_keep hbc (alloc_below w9 (.cells #[.string ⟨#[]⟩, .int .i64 0, .string ⟨#[]⟩, .slice none 0 0] 36))))
                    have HSZ := Lib.hid (Nat.le_trans HC.out.b.size hsz)
                    clear hbc hsz hb9
                    go_wp2_with fail
                    refine HI2.out.mono ?_
                    rintro e w10 ⟨rfl, hb10⟩
                    have HB10 := Lib.hid ((below_allocA HB9.out (.cells #[.string ⟨#[]⟩, .int .i64 0, .string ⟨#[]⟩, .slice none 0 0] 36)).trans (hb10.mono HSZ.out))
                    clear hb10
                    go_wp2_with fail
                    go_ret
                    exact ⟨rfl, HB10.out⟩
end

section
namespace nodeSized
open Go.ChangeShapes Go.WideShapes Go.ChangeAt Go.RowKit
set_option linter.unusedVariables false
theorem own : ownKnob Try.prog.godebug = none := by kernel_rfl
section
variable {H : Type} {enc : TypeId × Value → H} {P : Program}
theorem post_below {f : Func} {s : ChangeSpec} {apart fresh handsOn again : Bool} {W W' : World} {args : Array Value} {v : Value} {ds gs : List (DataW H)} {before pa pv : List MemPlace}
    (hW : DataW.Whole enc P f.params.toList s.vars apart W args.toList ds gs before)
    (hres : ∀ (b : Nat) (sp : Nat → Bool) (hd : Bool), DataW.TrodAll enc P W' b sp hd f.resultTypes.toList (v.resultList f.resultTypes.size) (s.fn H (ds ++ gs)).results [])
    (hargs : ∀ sp : Nat → Bool, (∀ p ∈ before, sp p.block = true) → DataW.TrodAll enc P W' 0 sp true f.params.toList args.toList (s.fn H (ds ++ gs)).args pa)
    (hvars : ∀ sp : Nat → Bool, (∀ p ∈ before, sp p.block = true) → DataW.TrodVars enc P W' sp s.vars (s.fn H (ds ++ gs)).vars pv)
    (hps : before = pa ++ pv) (hb : Below W.heap.size W W')
    (hok : ∀ (j : Nat) (t : TypeId) (r : Value), f.resultTypes[j]? = some t → (v.resultList f.resultTypes.size)[j]? = some r → Value.okWide P W' .any 0 t r) :
    s.post enc P f apart fresh handsOn again W args v W' := by
  have hlt : ∀ p ∈ before, p.block < W.heap.size := fun p hp => hW.lt p hp
  have hold : ∀ p ∈ before, (fun b => decide (b < W.heap.size)) p.block = true := fun p hp => by simpa using hlt p hp
  refine ⟨ds, gs, before, [], pa, pv, hW, hres _ _ _, hargs _ hold, hvars _ hold, World.keptBut_mono (fun p hp => ⟨hp, ?_⟩) (hb.frame (· ∈ before)), fun _ => ?_⟩
  · rw [hps, List.mem_append] at hp
    exact Or.inr hp
  · obtain ⟨_, _, _, _, _, hz, hn⟩ := hW
    refine ⟨hok, _, _, ([] ++ pa) ++ pv, ⟨[] ++ pa, pv, trodAll_append (hargs _ (fun _ _ => rfl)) (hres _ _ _), hvars _ (fun _ _ => rfl), rfl, ?_, ?_⟩, ?_⟩
    · intro b off hp
      have hin : MemPlace.cell b off ∈ before := by rw [hps]; simpa using hp
      rw [hb.frozen (hlt _ hin)]
      exact hz b off hin
    · intro ha
      have := hn ha
      rw [hps] at this
      simpa using this
    · intro p hp _
      rw [hps]
      simpa using hp
end
theorem walk (a0 : Int) (a1 : Int) (a2 : Int) (w1 : (Lit.int .i64 a1).wf = true) (w : World) :
    Calls Try.prog 4 #[.int .i64 a0, .int .i64 a1, .int .i64 a2] w fun e w' => e = .returned (.bool true) ∧ Below w.heap.size w w' := by
  refine law_sized a0 a1 a2 ?_ w
  simp [Lit.wf, IntKind.min, IntKind.max, IntKind.signed, IntKind.bits] at w1
  omega
set_option maxRecDepth 100000 in
theorem lifted (os : Os) (started : os.Started) (H : Type) (enc : TypeId × Value → H) :
    ReturnsInHanded {} Try.checked os 4 .any (Rows.nodeSizedSpec.pre6 enc Try.prog Try.f4 Rows.nodeSizedRow.domain false) (Rows.nodeSizedSpec.post enc Try.prog Try.f4 false true false false) := by
  refine returnsInHanded_of_change (C := Try.checked) own started (by kernel_rfl) Try.func4
    (ChangeSpec.witness6 (enc := enc) (C := Try.checked) false ⟨#[], #[.int .i64 0, .int .i64 0, .int .i64 0], []⟩ 8 (by kernel_rfl) (by kernel_rfl) (by kernel_rfl) (by kernel_rfl)) ?_
  intro W base args ds gs before hval0 hW hcnd _
  have hval : ∀ (j : Nat) t v, Try.f4.params[j]? = some t → args[j]? = some v → Value.okWide Try.prog W .any base t v := hval0
  have hW' := hW
  obtain ⟨p, q, hA0, hV, rfl, hfz, hnd⟩ := hW
  have hA : DataW.TrodAll enc Try.prog W 0 (fun _ => true) true Try.f4.params.toList args.toList ds p := hA0
  rw [Try.params4] at hA hval
  obtain ⟨v0, vs0, d0, ds0, p0, q0, hargs, rfl, rfl, h0, r0⟩ := trodAll_cons hA
  obtain ⟨v1, vs1, d1, ds1, p1, q1, rfl, rfl, rfl, h1, r1⟩ := trodAll_cons r0
  obtain ⟨v2, vs2, d2, ds2, p2, q2, rfl, rfl, rfl, h2, r2⟩ := trodAll_cons r1
  obtain ⟨rfl, rfl, rfl⟩ := trodAll_nil r2
  obtain rfl : args = #[v0, v1, v2] := by cases args; simp_all
  obtain ⟨rfl, rfl⟩ := trodVars_none hV
  obtain ⟨a0, rfl, rfl, rfl, w0⟩ := open_int Try.underlying3 (hval 0 3 v0 rfl rfl) h0
  obtain ⟨a1, rfl, rfl, rfl, w1⟩ := open_int Try.underlying3 (hval 1 3 v1 rfl rfl) h1
  obtain ⟨a2, rfl, rfl, rfl, w2⟩ := open_int Try.underlying3 (hval 2 3 v2 rfl rfl) h2
  clear hA0 hval0
  simp only [List.append_nil] at hW'
  refine (walk a0 a1 a2 w1 W).mono fun e W' ⟨he, hg⟩ => ?_
  subst he
  exact ⟨_, rfl, post_below (pa := []) (pv := []) hW' (fun _ _ _ => (trodAll_cons_mk (shut_bool Try.underlying4 _) trodAll_mk0)) (fun sp _ => (trodAll_cons_mk (shut_int Try.underlying3 w0) (trodAll_cons_mk (shut_int Try.underlying3 w1) (trodAll_cons_mk (shut_int Try.underlying3 w2) trodAll_mk0)))) (fun _ _ => rfl) rfl
    hg (ok_one (by kernel_rfl) rfl (okWide_bool_mk Try.underlying4 _))⟩

theorem over : Rows.nodeSizedRow.holds Try.pinned (OpenSpec.ofChange Rows.nodeSizedSpec) :=
  OpenClaim.holds_of_wide 4 Try.f4 rfl rfl rfl rfl rfl rfl rfl ⟨rfl, rfl, rfl, rfl, rfl⟩ rfl rfl rfl rfl rfl (by kernel_rfl) Try.func4 (by kernel_rfl)
    (of_decide_eq_true (by kernel_rfl)) (by unfold Func.isWrapper; first | (rw [if_pos (by decide +kernel)]; kernel_rfl) | (rw [if_neg (by decide +kernel)]; exact ⟨rfl, rfl⟩))
    (fun os started H enc _ => lifted os started H enc)

theorem proved : Rows.NodeSizedSaid :=
  over
#print axioms proved
end nodeSized
end
end Go.Proofs.Ytlpgfdhihimjaaa
