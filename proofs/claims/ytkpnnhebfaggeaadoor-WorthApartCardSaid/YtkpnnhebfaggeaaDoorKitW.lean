/-
  The book of lists: lists, Keep, Take: walks by the kit.
  Conditions: none.
-/
import Derived.Test.YtkpnnhebfaggeaaDoorKitU
import Derived.Maps.AppendAt
import Derived.Test.YtkpnnhebfaggeaaDoorKitV
import Derived.StillTailTactics
import Derived.Deep.AppendLies
import Derived.Deep.RegionLaw
import Derived.Deep.CutRange
namespace Go.Proofs.YtkpnnhebfaggeaaDoor
section
open Go.RowKit
set_option maxRecDepth 100000
/-- A list's slice, where it has room. -/
def roomy : Value → List Value
  | .slice a n c => if 0 < c then [.slice a n c] else []
  | _ => []
mutual
/-- A value lies there; its lists' own blocks; its lists, each behind what is in it. -/
def RepS (w : World) : VT → Value → List Nat → List Value → Prop
  | .unit, v, bs, out => v = .iface 90 (.agg #[]) ∧ bs = [] ∧ out = []
  | .truth b, v, bs, out => v = .iface 63 (.bool b) ∧ bs = [] ∧ out = []
  | .int n, v, bs, out => v = .iface 58 (.int .i64 n) ∧ bs = [] ∧ out = []
  | .text s, v, bs, out => v = .iface 88 (.string s) ∧ bs = [] ∧ out = []
  | .list l, v, bs, out => ∃ sv vs bl ol, v = .iface 61 sv ∧ w.ownsRow 0 30 1 sv l.length vs ∧ RepSs w l vs bl ol ∧ bs = sv.ownBlock.toList ++ bl ∧ out = ol ++ roomy sv
def RepSs (w : World) : List VT → List Value → List Nat → List Value → Prop
  | [], vs, bs, out => vs = [] ∧ bs = [] ∧ out = []
  | t :: r, vs, bs, out => ∃ v vr b br o ol, vs = v :: vr ∧ bs = b ++ br ∧ out = o ++ ol ∧ RepS w t v b o ∧ RepSs w r vr br ol
end
mutual
theorem RepV.sls {w : World} : ∀ (t : VT) (v : Value) (bs : List Nat), RepV w t v bs → ∃ out, RepS w t v bs out
  | .unit, v, bs, h => ⟨[], h.1, h.2, rfl⟩
  | .truth b, v, bs, h => ⟨[], h.1, h.2, rfl⟩
  | .int n, v, bs, h => ⟨[], h.1, h.2, rfl⟩
  | .text s, v, bs, h => ⟨[], h.1, h.2, rfl⟩
  | .list l, v, bs, h => by
    obtain ⟨sv, vs, bl, h1, h2, h3, rfl⟩ := h
    obtain ⟨ol, h4⟩ := RepVs.sls l vs bl h3
    exact ⟨ol ++ roomy sv, sv, vs, bl, ol, h1, h2, h4, rfl, rfl⟩
theorem RepVs.sls {w : World} : ∀ (l : List VT) (vs : List Value) (bs : List Nat), RepVs w l vs bs → ∃ out, RepSs w l vs bs out
  | [], vs, bs, h => ⟨[], h.1, h.2, rfl⟩
  | t :: r, vs, bs, h => by
    obtain ⟨v, vr, b, br, rfl, rfl, h3, h4⟩ := h
    obtain ⟨o, ho⟩ := RepV.sls t v b h3
    obtain ⟨ol, hol⟩ := RepVs.sls r vr br h4
    exact ⟨o ++ ol, v, vr, b, br, o, ol, rfl, rfl, rfl, ho, hol⟩
end
mutual
theorem RepS.repV {w : World} : ∀ (t : VT) (v : Value) (bs : List Nat) (out : List Value), RepS w t v bs out → RepV w t v bs
  | .unit, v, bs, out, h => ⟨h.1, h.2.1⟩
  | .truth b, v, bs, out, h => ⟨h.1, h.2.1⟩
  | .int n, v, bs, out, h => ⟨h.1, h.2.1⟩
  | .text s, v, bs, out, h => ⟨h.1, h.2.1⟩
  | .list l, v, bs, out, h => by
    obtain ⟨sv, vs, bl, ol, h1, h2, h3, h4, _⟩ := h
    exact ⟨sv, vs, bl, h1, h2, RepSs.repVs l vs bl ol h3, h4⟩
theorem RepSs.repVs {w : World} : ∀ (l : List VT) (vs : List Value) (bs : List Nat) (out : List Value), RepSs w l vs bs out → RepVs w l vs bs
  | [], vs, bs, out, h => ⟨h.1, h.2.1⟩
  | t :: r, vs, bs, out, h => by
    obtain ⟨v, vr, b, br, o, ol, rfl, rfl, rfl, h3, h4⟩ := h
    exact ⟨v, vr, b, br, rfl, rfl, RepS.repV t v b o h3, RepSs.repVs r vr br ol h4⟩
end
mutual
theorem RepS.keep {w w' : World} : ∀ (t : VT) (v : Value) (bs : List Nat) (out : List Value), (∀ g ∈ bs, w'.heap[g]? = w.heap[g]?) → RepS w t v bs out → RepS w' t v bs out
  | .unit, v, bs, out, hk, h => h
  | .truth b, v, bs, out, hk, h => h
  | .int n, v, bs, out, hk, h => h
  | .text s, v, bs, out, hk, h => h
  | .list l, v, bs, out, hk, h => by
    obtain ⟨sv, vs, bl, ol, h1, h2, h3, rfl, h5⟩ := h
    exact ⟨sv, vs, bl, ol, h1, ownsRow_keep h2 (fun g hg => hk g (by simp [hg])), RepSs.keep l vs bl ol (fun g hg => hk g (by simp [hg])) h3, rfl, h5⟩
theorem RepSs.keep {w w' : World} : ∀ (l : List VT) (vs : List Value) (bs : List Nat) (out : List Value), (∀ g ∈ bs, w'.heap[g]? = w.heap[g]?) → RepSs w l vs bs out → RepSs w' l vs bs out
  | [], vs, bs, out, hk, h => h
  | t :: r, vs, bs, out, hk, h => by
    obtain ⟨v, vr, b, br, o, ol, rfl, rfl, rfl, h3, h4⟩ := h
    exact ⟨v, vr, b, br, o, ol, rfl, rfl, rfl, RepS.keep t v b o (fun g hg => hk g (by simp [hg])) h3, RepSs.keep r vr br ol (fun g hg => hk g (by simp [hg])) h4⟩
end
theorem RepSs.split {w : World} : ∀ (l : List VT) (vs : List Value) (bs : List Nat) (out : List Value), RepSs w l vs bs out → ∀ i (h : i < l.length), ∃ v b o, vs[i]? = some v ∧ RepS w l[i] v b o ∧ (∀ g ∈ b, g ∈ bs) ∧
    ∃ o1 o2, out = o1 ++ o ++ o2 ∧ (∃ b1, RepSs w (l.take i) (vs.take i) b1 o1) ∧ (∃ b2, RepSs w (l.drop (i + 1)) (vs.drop (i + 1)) b2 o2)
  | t :: r, vs, bs, out, h, 0, hi => by
    obtain ⟨v, vr, b, br, o, ol, rfl, rfl, rfl, h3, h4⟩ := h
    exact ⟨v, b, o, rfl, h3, fun g hg => List.mem_append_left _ hg, [], ol, by simp, ⟨[], rfl, rfl, rfl⟩, ⟨br, by simpa using h4⟩⟩
  | t :: r, vs, bs, out, h, i + 1, hi => by
    obtain ⟨v, vr, b, br, o, ol, rfl, rfl, rfl, h3, h4⟩ := h
    obtain ⟨u, c, p, e, h5, h6, o1, o2, rfl, ⟨b1, h7⟩, ⟨b2, h8⟩⟩ := RepSs.split r vr br ol h4 i (by simpa using hi)
    exact ⟨u, c, p, e, h5, fun g hg => List.mem_append_right _ (h6 g hg), o ++ o1, o2, by simp, ⟨b ++ b1, v, vr.take i, b, b1, o, o1, rfl, rfl, rfl, h3, h7⟩, ⟨b2, by simpa using h8⟩⟩
end

section
open Go.RowKit
set_option maxRecDepth 100000
theorem info61 : (Tryd.prog.info? 61).map (fun i => (i.zero, i.size, i.bytes)) = some (some (.slice none 0 0), 1, 24) := by kernel_rfl
def LsR (w : World) (base : Nat) (lv : Value) (n : Nat) (rows out : List Value) (e : Ending) (w' : World) : Prop := ∃ lv', e = .returned lv' ∧ w'.ownsRow base 61 1 lv' (n + out.length) (rows ++ out) ∧ KBs lv.ownBlock.toList w w' ∧ (∀ g, lv'.ownBlock = some g → lv.ownBlock = some g ∨ w.heap.size ≤ g)
def LsFor (t : VT) : Prop := ∀ (w : World) (v : Value) (bs : List Nat) (out : List Value) (base n : Nat) (lv : Value) (rows : List Value), RepS w t v bs out → nodesV t ≤ 70000 → w.ownsRow base 61 1 lv n rows → (∀ g ∈ bs, lv.ownBlock ≠ some g) →
  n + out.length ≤ 10000000 → base ≤ w.heap.size → Calls Tryd.prog 42 #[v, lv] w (LsR w base lv n rows out)
theorem ls_same {w : World} {base n : Nat} {lv : Value} {rows : List Value} (h : w.ownsRow base 61 1 lv n rows) : LsR w base lv n rows [] (.returned lv) w := ⟨lv, rfl, by simpa using h, KBs.refl _ _, fun g hg => .inl hg⟩
set_option maxHeartbeats 1000000 in
theorem ls_unit : LsFor .unit := by
  intro w v bs out base n lv rows hv _ ho _ _ _
  obtain ⟨rfl, rfl, rfl⟩ := hv
  go_enter Tryd.func42, Tryd.ntmps42
  go_wp2_with fail
  go_ret
  exact ls_same ho
set_option maxHeartbeats 1000000 in
theorem ls_truth (b : Bool) : LsFor (.truth b) := by
  intro w v bs out base n lv rows hv _ ho _ _ _
  obtain ⟨rfl, rfl, rfl⟩ := hv
  go_enter Tryd.func42, Tryd.ntmps42
  go_wp2_with fail
  go_ret
  exact ls_same ho
set_option maxHeartbeats 1000000 in
theorem ls_int (k : Int) : LsFor (.int k) := by
  intro w v bs out base n lv rows hv _ ho _ _ _
  obtain ⟨rfl, rfl, rfl⟩ := hv
  go_enter Tryd.func42, Tryd.ntmps42
  go_wp2_with fail
  go_ret
  exact ls_same ho
set_option maxHeartbeats 1000000 in
theorem ls_text (s : ByteArray) : LsFor (.text s) := by
  intro w v bs out base n lv rows hv _ ho _ _ _
  obtain ⟨rfl, rfl, rfl⟩ := hv
  go_enter Tryd.func42, Tryd.ntmps42
  go_wp2_with fail
  go_ret
  exact ls_same ho
set_option maxHeartbeats 4000000 in
theorem ls_list (l : List VT) (ih : ∀ t ∈ l, LsFor t) : LsFor (.list l) := by
  intro w v bs out base n lv rows hv hn ho hd hb hbase
  obtain ⟨sv, vs, bl, ol, rfl, hown, hr, rfl, rfl⟩ := hv
  obtain ⟨la, lc, rfl, hmx, hca⟩ := own_cells hown
  have hn' : nodesVs l ≤ 69999 := by simp only [nodesV] at hn; omega
  have hln : l.length ≤ 69999 := Nat.le_trans (len_le_nodes l) hn'
  obtain ⟨i0, hi, hz0, hz1, hz2⟩ := info_parts info61
  have HZ1 := Lib.hid hz1; clear hz1
  have HZ2 := Lib.hid hz2; clear hz2
  have HZ0 := Lib.hid hz0; clear hz0
  have HI0 := Lib.hid hi; clear hi
  have hblt : ∀ g ∈ (Value.slice la l.length lc).ownBlock.toList ++ bl, g < w.heap.size := fun g hg => by
    rcases List.mem_append.1 hg with hg | hg
    · exact (hown.lt g (by simpa using hg)).2
    · exact RepVs.lt _ _ _ (RepSs.repVs _ _ _ _ hr) g hg
  have HI := Lib.hid ih
  have HA := Lib.hid hca
  have HR := Lib.hid hr
  have HO := Lib.hid ho
  have HD := Lib.hid hd
  have HBL := Lib.hid hblt
  have HN := Lib.hid hn'
  have HBS := Lib.hid hbase
  have hlen : n + ol.length ≤ 10000000 ∧ n + ol.length + (roomy (.slice la l.length lc)).length ≤ 10000000 := by simp at hb ⊢; omega
  have HLEN := Lib.hid hlen
  clear ih hca hr ho hd hblt hn' hn hbase hb hlen hown
  go_enter Tryd.func42, Tryd.ntmps42
  go_wp2_with fail
  go_loopw [1, 7] (fun sv iv wr => ∃ (i : Nat) (o1 o2 : List Value) (b2 : List Nat), i ≤ l.length ∧ iv = .int .i64 i ∧ Hid (RepSs w (l.drop i) (vs.drop i) b2 o2) ∧ Hid (∀ g ∈ b2, g ∈ bl) ∧ Hid (o1 ++ o2 = ol) ∧
      Hid (wr.ownsRow base 61 1 sv (n + o1.length) (rows ++ o1)) ∧ Hid (KBs lv.ownBlock.toList w wr) ∧ Hid (∀ g, sv.ownBlock = some g → lv.ownBlock = some g ∨ w.heap.size ≤ g))
    (fun _ iv _ => l.length - (intOf iv).toNat)
  case atStart => exact ⟨0, [], ol, bl, by omega, rfl, Lib.hid (by simpa using HR.out), Lib.hid (fun g hg => hg), Lib.hid rfl, Lib.hid (by simpa using HO.out), Lib.hid (KBs.refl _ _), Lib.hid (fun g hg => .inl hg)⟩
  case round =>
    obtain ⟨i, o1, o2, b2, hi, rfl, hr, hsub, ho, how, hkb, hnew⟩ := hrel
    by_cases hlt : i < l.length
    · obtain ⟨g, rfl, hg⟩ := HA.out (by omega)
      have hr' := hr.out
      rw [List.drop_eq_getElem_cons hlt] at hr'
      obtain ⟨v, vr, b3, b4, o3, o4, hv1, rfl, rfl, hv, hvr⟩ := hr'
      have hvi : vs[i]? = some v := by
        have : (vs.drop i)[0]? = some v := by rw [hv1]; rfl
        rw [List.getElem?_drop] at this
        simpa using this
      have hv2 : vr = vs.drop (i + 1) := by
        have := drop_cons' hvi
        rw [hv1] at this
        simp only [List.cons.injEq, true_and] at this
        exact this
      subst hv2
      obtain ⟨ty, u, rfl⟩ := (RepS.repV _ _ _ _ hv).iface
      have hst : ∀ b, b ∈ (Value.slice (some ⟨g, 0, none⟩) l.length lc).ownBlock.toList ++ bl → wr.heap[b]? = w.heap[b]? := fun b hb => hkb.out.block b (HBL.out b hb) (fun hm => HD.out b hb (by simpa using hm))
      have hx : wr.cell? ⟨g, i, none⟩ = some (.iface ty u) := by
        rw [cellOf_heap (hst g (by simp [Value.ownBlock]))]; exact hg i _ hvi
      have hcall : Calls Tryd.prog 42 #[.iface ty u, u1] wr (LsR wr base u1 (n + o1.length) (rows ++ o1) o3) := by
        refine HI.out l[i] (List.getElem_mem hlt) wr _ b3 o3 base _ _ _ (RepS.keep _ _ _ _ (fun b hb => hst b (List.mem_append_right _ (hsub.out b (List.mem_append_left _ hb)))) hv) ?_ how.out (fun b hb e => ?_) ?_ (Nat.le_trans HBS.out hkb.out.size)
        · have := nodesVs_take l i hlt; have := nodesVs_le l (i + 1); have := HN.out; omega
        · have hb2 := hsub.out b (List.mem_append_left _ hb)
          rcases hnew.out b e with h1 | h1
          · exact HD.out b (List.mem_append_right _ hb2) h1
          · have := HBL.out b (List.mem_append_right _ hb2); omega
        · have h1 := congrArg List.length ho.out
          have h2 := HLEN.out.1
          simp at h1; omega
      have HC := Lib.hid hcall
      have HVR := Lib.hid hvr
      clear hcall hv hvr hvi hv1 hst hg
      go_wp2_with fail
      refine HC.out.mono ?_
      rintro e w1 ⟨lv', rfl, hown1, hk1, hnew1⟩
      have HO1 := Lib.hid hown1
      have HK1 := Lib.hid hk1
      have HN1 := Lib.hid hnew1
      clear hown1 hk1 hnew1
      go_wp2_with fail
      go_roundw
      case rel => exact ⟨i + 1, o1 ++ o3, o4, b4, by omega, by go_num, HVR, Lib.hid (fun g hg => hsub.out g (List.mem_append_right _ hg)), Lib.hid (by rw [List.append_assoc]; exact ho.out), Lib.hid (by
          have := HO1.out
          rw [List.length_append, ← Nat.add_assoc, ← List.append_assoc]; exact this), Lib.hid (hkb.out.trans HK1.out (fun b hb => by
          have h1 : u1.ownBlock = some b := by simpa using hb
          rcases hnew.out b h1 with h2 | h2
          · exact .inl (by simp [h2])
          · exact .inr h2)), Lib.hid (fun b hb => by
          rcases HN1.out b hb with h1 | h1
          · exact hnew.out b h1
          · exact .inr (Nat.le_trans hkb.out.size h1))⟩
      case measure => simp [intOf]; omega
    · obtain rfl : i = l.length := by omega
      have hr' := hr.out
      rw [List.drop_length] at hr'
      obtain ⟨_, rfl, rfl⟩ := hr'
      have ho' := ho.out
      rw [List.append_nil] at ho'
      subst ho'
      by_cases hc : 0 < lc
      · have hcI : (0 : Int) < (lc : Int) := by omega
        have hrm : roomy (.slice la l.length lc) = [.slice la l.length lc] := if_pos hc
        have HRM := Lib.hid hrm
        have h2 := HLEN.out.2
        rw [hrm] at h2
        simp at h2
        clear hrm
        go_wp2_with (at_builtin; refine wpList_append_own_at _ rfl _ _ 47 rfl base 61 i0 _ 1 24 Tryd.underlying47 HI0.out HZ0.out HZ1.out HZ2.out rfl (by decide) _ _ _ rfl (how.out.alloc _) ⟨wr.heap.size, 0, none⟩ 1 1 [.slice la l.length lc] rfl rfl ?c1 ?c2 ?c3 ?c4 ?c5 ?_)
        case c1 => exact one_new _ _ _
        case c2 => intro u hu; simp at hu; subst hu; rfl
        case c3 => unfold maxLen; omega
        case c4 => omega
        case c5 => have := HBS.out; have := hkb.out.size; simp; omega
        intro lv' w2 hown2 hgrow2 _ hblk2
        have HO2 := Lib.hid hown2
        have HG2 := Lib.hid hgrow2
        have HB2 := Lib.hid hblk2
        clear hown2 hgrow2 hblk2
        go_wp2_with fail
        go_ret
        refine ⟨lv', rfl, ?_, ?_, fun b hb => ?_⟩
        · have e : n + (o1 ++ [Value.slice la l.length lc]).length = n + o1.length + 1 := by rw [List.length_append, List.length_cons, List.length_nil, ← Nat.add_assoc]
          rw [HRM.out, e]; exact HO2.out
        · have hg2 := HG2.out
          refine hkb.out.trans (c := w2) (cs := u1.ownBlock.toList) ⟨hg2.os, hg2.tape, hg2.output, by have := hg2.size; simp at this; omega, fun b hb hn => ?_⟩ (fun b hb => ?_)
          · rw [hg2.block b (by simp; omega) (fun e => hn (by simp [e])), Below.heap_alloc _ _ _ hb]
          · have h1 : u1.ownBlock = some b := by simpa using hb
            rcases hnew.out b h1 with h2 | h2
            · exact .inl (by simp [h2])
            · exact .inr h2
        · rcases HB2.out with h1 | h1
          · exact hnew.out b (h1.symm.trans hb)
          · rw [h1] at hb; simp at hb
            have := hkb.out.size
            right; omega
      · have hcI : ¬ ((0 : Int) < (lc : Int)) := by omega
        have hrm : roomy (.slice la l.length lc) = [] := if_neg hc
        have HRM := Lib.hid hrm
        clear hrm
        go_wp2_with fail
        go_ret
        exact ⟨_, rfl, by rw [HRM.out, List.append_nil]; exact how.out, hkb.out, hnew.out⟩
mutual
theorem ls_any : ∀ t : VT, LsFor t
  | .unit => ls_unit
  | .truth b => ls_truth b
  | .int n => ls_int n
  | .text s => ls_text s
  | .list l => ls_list l (ls_anys l)
theorem ls_anys : ∀ l : List VT, ∀ t ∈ l, LsFor t
  | [], t, h => by simp at h
  | q :: r, t, h => by
    rcases List.mem_cons.1 h with h | h
    · rw [h]; exact ls_any q
    · exact ls_anys r t h
end
end

section
open Go.RowKit
set_option maxRecDepth 100000
/-- The book's own block. -/
def BKc (w : World) (B : Nat) (lv nv : Value) (z : Int) (kv : Value) : Prop := w.heap[B]? = some (.cells #[lv, nv, .int .i64 z, kv] 51 (0, 0))
theorem oneCell_slice (a : Option Addr) (n c : Nat) : (Value.slice a n c).oneCell' = true := rfl
set_option maxHeartbeats 4000000 in
/-- 'Keep': the values are laid behind those that are kept. -/
theorem keep_any (w : World) (B base n m c : Nat) (lv nv kv : Value) (z : Int) (ks news : List Value) (ad : Addr) (hB : BKc w B lv nv z kv) (hk : w.ownsRow base 30 1 kv n ks) (hne : kv.ownBlock ≠ some B) (hl : news.length = m)
    (hc : ∀ j u, news[j]? = some u → w.cell? (ad.add j) = some u) (h1 : ∀ u ∈ news, u.oneCell' = true) (hnm : n + m ≤ 10000000) (hb : base ≤ w.heap.size) :
    Calls Tryd.prog 22 #[.pointer (some ⟨B, 0, none⟩), .slice (some ad) m c] w fun e w' => e = .returned (.tuple #[]) ∧ ∃ kv', BKc w' B lv nv z kv' ∧ w'.ownsRow base 30 1 kv' (n + m) (ks ++ news) ∧ KBs (B :: kv.ownBlock.toList) w w' ∧
      (∀ g, kv'.ownBlock = some g → kv.ownBlock = some g ∨ w.heap.size ≤ g) := by
  obtain ⟨i30, hi30, hy0, hy1, hy2⟩ := info_parts info30
  have HY1 := Lib.hid hy1; clear hy1
  have HY2 := Lib.hid hy2; clear hy2
  have HY0 := Lib.hid hy0; clear hy0
  have HI30 := Lib.hid hi30; clear hi30
  obtain ⟨c3, _⟩ := heapcell hB 3
  have HB := Lib.hid hB
  have HK := Lib.hid hk
  have HC := Lib.hid hc
  have H1 := Lib.hid h1
  have HNE := Lib.hid hne
  clear hB hk hc h1 hne
  go_enter Tryd.func22, Tryd.ntmps22
  go_wp2_with (at_builtin; refine wpList_append_own_at _ rfl _ _ 49 rfl base 30 i30 .nilIface 1 16 Tryd.underlying49 HI30.out HY0.out HY1.out HY2.out rfl (by decide) _ _ _ rfl HK.out ad m c news rfl ?c0 HC.out H1.out ?c3 ?c4 hb ?_)
  case c0 => omega
  case c3 => unfold maxLen; omega
  case c4 => omega
  intro kv' w2 hown hgrow _ hblk
  have hlt : B < w.heap.size := (Array.getElem?_eq_some_iff.1 HB.out).1
  have hB2 : BKc w2 B lv nv z kv := (hgrow.block B hlt (fun e => HNE.out e.symm)).trans HB.out
  obtain ⟨la, lc, rfl⟩ := own_slice hown
  obtain ⟨q3, f3⟩ := heapcell hB2 3
  have HB2 := Lib.hid hB2
  have HO := Lib.hid hown
  have HG := Lib.hid hgrow
  have HBL := Lib.hid hblk
  clear hB2 hown hgrow hblk c3
  go_wp2_with fail
  go_end0
  have hg := HG.out
  have hn : ∀ g, (Value.slice la (n + m) lc).ownBlock = some g → kv.ownBlock = some g ∨ w.heap.size ≤ g := fun g e => by
    rcases HBL.out with h1 | h1
    · exact .inl (h1.symm.trans e)
    · rw [h1] at e; simp at e; right; omega
  refine ⟨rfl, .slice la (n + m) lc, heap_set HB2.out _, ownsRow_keep HO.out (fun g e => heap_set_ne _ (fun e2 => ?_)), ?_, hn⟩
  · subst e2
    rcases hn _ e with h1 | h1
    · exact HNE.out h1
    · omega
  · exact ⟨hg.os, hg.tape, hg.output, by have := hg.size; simpa [World.setCell] using this, fun g hgl hgn => by
      have h2 : g ≠ B := fun e => hgn (by simp [e])
      rw [heap_set_ne _ h2]
      exact hg.block g hgl (fun e => hgn (by simp [e]))⟩
end

section
open Go.RowKit
set_option maxRecDepth 100000
/-- A list that the book holds: its block, its length, its room. -/
abbrev Rw := Nat × Nat × Nat
def rowV (r : Rw) : Value := .slice (some ⟨r.1, 0, none⟩) r.2.1 r.2.2
/-- A list's row lies there. -/
def RowAt (w : World) (r : Rw) : Prop := ∃ cur : Array Value, w.heap[r.1]? = some (.cells cur 30 (0, 0)) ∧ cur.size = r.2.2 ∧ r.2.1 ≤ r.2.2 ∧ r.2.2 ≤ maxLen ∧ r.2.1 ≤ 70000
theorem RowAt.keep {w w' : World} {r : Rw} (h : RowAt w r) (hk : w'.heap[r.1]? = w.heap[r.1]?) : RowAt w' r := by
  obtain ⟨cur, h1, h2⟩ := h
  exact ⟨cur, hk.trans h1, h2⟩
theorem roomy_rows {w : World} {l : Nat} {sv : Value} {vs : List Value} (h : w.ownsRow 0 30 1 sv l vs) (hl : l ≤ 70000) : ∃ rs : List Rw, roomy sv = rs.map rowV ∧ rs.length ≤ 1 ∧ ∀ r ∈ rs, sv.ownBlock = some r.1 ∧ RowAt w r := by
  rcases h.2 with ⟨rfl, rfl⟩ | ⟨g, cap, cur, rfl, _, hg, hlc, hcm, hcs, _⟩
  · exact ⟨[], by simp [roomy], by simp, by simp⟩
  · by_cases hc : 0 < cap
    · refine ⟨[(g, l, cap)], by simp [roomy, hc, rowV], by simp, fun r hr => ?_⟩
      have : r = (g, l, cap) := by simpa using hr
      subst this
      exact ⟨rfl, cur, hg, by simpa using hcs, hlc, hcm, hl⟩
    · exact ⟨[], by simp [roomy, hc], by simp, by simp⟩
theorem nodes_mem : ∀ (l : List VT) (t : VT), t ∈ l → nodesV t ≤ nodesVs l
  | x :: r, t, h => by
    simp only [nodesVs]
    rcases List.mem_cons.1 h with h | h
    · rw [h]; omega
    · have := nodes_mem r t h; omega
mutual
theorem outs_spec {w : World} : ∀ (t : VT) (v : Value) (bs : List Nat) (out : List Value), RepS w t v bs out → bs.Nodup → nodesV t ≤ 70000 → ∃ rs : List Rw, out = rs.map rowV ∧ (rs.map (·.1)).Nodup ∧ rs.length ≤ nodesV t ∧ ∀ r ∈ rs, r.1 ∈ bs ∧ RowAt w r
  | .unit, v, bs, out, h, hn, hs => ⟨[], by rw [h.2.2]; rfl, by simp, by simp, by simp⟩
  | .truth b, v, bs, out, h, hn, hs => ⟨[], by rw [h.2.2]; rfl, by simp, by simp, by simp⟩
  | .int n, v, bs, out, h, hn, hs => ⟨[], by rw [h.2.2]; rfl, by simp, by simp, by simp⟩
  | .text s, v, bs, out, h, hn, hs => ⟨[], by rw [h.2.2]; rfl, by simp, by simp, by simp⟩
  | .list l, v, bs, out, h, hn, hs => by
    obtain ⟨sv, vs, bl, ol, _, h2, h3, rfl, rfl⟩ := h
    obtain ⟨hn1, hn2, hn3⟩ := List.nodup_append.1 hn
    simp only [nodesV] at hs ⊢
    obtain ⟨rs, e1, e2, e3, e4⟩ := outs_specs l vs bl ol h3 hn2 (fun t ht => by have := nodes_mem l t ht; omega)
    obtain ⟨rr, f1, f2, f3⟩ := roomy_rows h2 (by have := len_le_nodes l; omega)
    refine ⟨rs ++ rr, by rw [e1, f1, List.map_append], ?_, by rw [List.length_append]; omega, fun r hr => ?_⟩
    · rw [List.map_append, List.nodup_append]
      refine ⟨e2, ?_, fun a ha b hb hab => ?_⟩
      · match rr, f2 with
        | [], _ => simp
        | [x], _ => simp
      · obtain ⟨r1, hr1, rfl⟩ := List.mem_map.1 ha
        obtain ⟨r2, hr2, rfl⟩ := List.mem_map.1 hb
        have h4 := (e4 r1 hr1).1
        have h5 := (f3 r2 hr2).1
        exact hn3 r2.1 (by simp [h5]) r1.1 h4 hab.symm
    · rcases List.mem_append.1 hr with hr | hr
      · exact ⟨List.mem_append_right _ (e4 r hr).1, (e4 r hr).2⟩
      · exact ⟨List.mem_append_left _ (by simp [(f3 r hr).1]), (f3 r hr).2⟩
theorem outs_specs {w : World} : ∀ (l : List VT) (vs : List Value) (bs : List Nat) (out : List Value), RepSs w l vs bs out → bs.Nodup → (∀ t ∈ l, nodesV t ≤ 70000) → ∃ rs : List Rw, out = rs.map rowV ∧ (rs.map (·.1)).Nodup ∧ rs.length ≤ nodesVs l ∧ ∀ r ∈ rs, r.1 ∈ bs ∧ RowAt w r
  | [], vs, bs, out, h, hn, hs => ⟨[], by rw [h.2.2]; rfl, by simp, by simp, by simp⟩
  | t :: q, vs, bs, out, h, hn, hs => by
    obtain ⟨v, vr, b, br, o, ol, rfl, rfl, rfl, h3, h4⟩ := h
    obtain ⟨hn1, hn2, hn3⟩ := List.nodup_append.1 hn
    simp only [nodesVs]
    obtain ⟨rs, e1, e2, e3, e4⟩ := outs_spec t v b o h3 hn1 (hs t (by simp))
    obtain ⟨rr, f1, f2, f3, f4⟩ := outs_specs q vr br ol h4 hn2 (fun x hx => hs x (by simp [hx]))
    refine ⟨rs ++ rr, by rw [e1, f1, List.map_append], ?_, by rw [List.length_append]; omega, fun r hr => ?_⟩
    · rw [List.map_append, List.nodup_append]
      refine ⟨e2, f2, fun a ha b hb hab => ?_⟩
      obtain ⟨r1, hr1, rfl⟩ := List.mem_map.1 ha
      obtain ⟨r2, hr2, rfl⟩ := List.mem_map.1 hb
      exact hn3 r1.1 (e4 r1 hr1).1 r2.1 (f4 r2 hr2).1 hab
    · rcases List.mem_append.1 hr with hr | hr
      · exact ⟨List.mem_append_left _ (e4 r hr).1, (e4 r hr).2⟩
      · exact ⟨List.mem_append_right _ (f4 r hr).1, (f4 r hr).2⟩
end
theorem nodes_hundred : ∀ (l : List VT), (∀ t ∈ l, nodesV t ≤ 70000) → l.length ≤ 100 → nodesVs l ≤ 7000000 := fun l h hl => by
  have key : ∀ (l : List VT), (∀ t ∈ l, nodesV t ≤ 70000) → nodesVs l ≤ 70000 * l.length := fun l => by
    induction l with
    | nil => intro _; simp [nodesVs]
    | cons t r ih =>
      intro h
      have h1 := h t (by simp)
      have h2 := ih (fun x hx => h x (by simp [hx]))
      simp only [nodesVs, List.length_cons]; omega
  have := key l h
  omega
/-- A list that holds its own mark alone. -/
def Marked (w : World) (j : Nat) (r : Rw) : Prop := ∃ cur : Array Value, w.heap[r.1]? = some (.cells cur 30 (0, 0)) ∧ cur.size = r.2.2 ∧ r.2.1 ≤ r.2.2 ∧ r.2.2 ≤ maxLen ∧ r.2.1 ≤ 70000 ∧ ∀ k, k < r.2.1 → cur[k]? = some (.iface 58 (.int .i64 (-((j : Int) + 1))))
theorem Marked.keep {w w' : World} {j : Nat} {r : Rw} (h : Marked w j r) (hk : w'.heap[r.1]? = w.heap[r.1]?) : Marked w' j r := by
  obtain ⟨cur, h1, h2⟩ := h
  exact ⟨cur, hk.trans h1, h2⟩
def MarkedAll (w : World) (rows : List Rw) : Prop := ∀ j r, rows[j]? = some r → Marked w j r
theorem MarkedAll.keep {w w' : World} {rows : List Rw} (h : MarkedAll w rows) (hk : ∀ r ∈ rows, w'.heap[r.1]? = w.heap[r.1]?) : MarkedAll w' rows := fun j r hj => (h j r hj).keep (hk r (List.mem_of_getElem? hj))
theorem MarkedAll.snoc {w : World} {rows : List Rw} {r : Rw} (h : MarkedAll w rows) (hr : Marked w rows.length r) : MarkedAll w (rows ++ [r]) := fun j r' hj => by
  by_cases hlt : j < rows.length
  · rw [List.getElem?_append_left hlt] at hj
    exact h j r' hj
  · by_cases he : j = rows.length
    · subst he
      simp at hj
      subst hj
      exact hr
    · rw [List.getElem?_eq_none (by simp; omega)] at hj
      cases hj
/-- The book: its block, its lists, their lengths, its size, what is kept. -/
structure BK (base : Nat) (w : World) (B : Nat) (rows : List Rw) (lv nv kv : Value) (z : Int) (ks : List Value) : Prop where
  c : BKc w B lv nv z kv
  l : w.ownsRow base 61 1 lv rows.length (rows.map rowV)
  n : w.ownsRow base 3 1 nv rows.length (rows.map fun r => .int .i64 (r.2.1 : Nat))
  k : w.ownsRow base 30 1 kv ks.length ks
  m : MarkedAll w rows
  z0 : 0 ≤ z
  nd : (B :: (lv.ownBlock.toList ++ nv.ownBlock.toList ++ kv.ownBlock.toList ++ rows.map (·.1))).Nodup
  hb : base ≤ B
  rb : ∀ r ∈ rows, base ≤ r.1
/-- The book's blocks. -/
def bkB (B : Nat) (rows : List Rw) (lv nv kv : Value) : List Nat := B :: (lv.ownBlock.toList ++ nv.ownBlock.toList ++ kv.ownBlock.toList ++ rows.map (·.1))
theorem BK.lt {base B : Nat} {w : World} {rows : List Rw} {lv nv kv : Value} {z : Int} {ks : List Value} (h : BK base w B rows lv nv kv z ks) : ∀ g ∈ bkB B rows lv nv kv, base ≤ g ∧ g < w.heap.size := fun g hg => by
  unfold bkB at hg
  rcases List.mem_cons.1 hg with rfl | hg
  · exact ⟨h.hb, (Array.getElem?_eq_some_iff.1 h.c).1⟩
  · rcases List.mem_append.1 hg with hg | hg
    · rcases List.mem_append.1 hg with hg | hg
      · rcases List.mem_append.1 hg with hg | hg
        · exact h.l.lt g (by simpa using hg)
        · exact h.n.lt g (by simpa using hg)
      · exact h.k.lt g (by simpa using hg)
    · obtain ⟨r, hr, rfl⟩ := List.mem_map.1 hg
      obtain ⟨j, hj⟩ := List.getElem?_of_mem hr
      obtain ⟨cur, h1, _⟩ := h.m j r hj
      exact ⟨h.rb r hr, (Array.getElem?_eq_some_iff.1 h1).1⟩
theorem BK.keep {base B : Nat} {w w' : World} {rows : List Rw} {lv nv kv : Value} {z : Int} {ks : List Value} (h : BK base w B rows lv nv kv z ks) (hk : ∀ g ∈ bkB B rows lv nv kv, w'.heap[g]? = w.heap[g]?) : BK base w' B rows lv nv kv z ks :=
  ⟨(hk B (by simp [bkB])).trans h.c, ownsRow_keep h.l (fun g e => hk g (by simp [bkB, e])), ownsRow_keep h.n (fun g e => hk g (by simp [bkB, e])), ownsRow_keep h.k (fun g e => hk g (by simp [bkB, e])),
    h.m.keep (fun r hr => hk r.1 (by simp [bkB]; exact .inr (.inr (.inr (.inr ⟨r.2.1, r.2.2, hr⟩))))), h.z0, h.nd, h.hb, h.rb⟩
end

section
open Go.RowKit
set_option maxRecDepth 100000
/-- A value, or none. -/
def RepO (w : World) : Option VT → Value → List Nat → List Value → Prop
  | none, v, bs, out => v = .nilIface ∧ bs = [] ∧ out = []
  | some t, v, bs, out => RepS w t v bs out ∧ nodesV t ≤ 70000
def RepOs (w : World) : List (Option VT) → List Value → List Nat → List Value → Prop
  | [], vs, bs, out => vs = [] ∧ bs = [] ∧ out = []
  | t :: r, vs, bs, out => ∃ v vr b br o ol, vs = v :: vr ∧ bs = b ++ br ∧ out = o ++ ol ∧ RepO w t v b o ∧ RepOs w r vr br ol
theorem RepO.keep {w w' : World} {t : Option VT} {v : Value} {bs : List Nat} {out : List Value} (hk : ∀ g ∈ bs, w'.heap[g]? = w.heap[g]?) (h : RepO w t v bs out) : RepO w' t v bs out := by
  cases t with
  | none => exact h
  | some t => exact ⟨RepS.keep _ _ _ _ hk h.1, h.2⟩
theorem RepOs.keep {w w' : World} : ∀ (l : List (Option VT)) (vs : List Value) (bs : List Nat) (out : List Value), (∀ g ∈ bs, w'.heap[g]? = w.heap[g]?) → RepOs w l vs bs out → RepOs w' l vs bs out
  | [], vs, bs, out, hk, h => h
  | t :: r, vs, bs, out, hk, h => by
    obtain ⟨v, vr, b, br, o, ol, rfl, rfl, rfl, h3, h4⟩ := h
    exact ⟨v, vr, b, br, o, ol, rfl, rfl, rfl, h3.keep (fun g hg => hk g (by simp [hg])), RepOs.keep r vr br ol (fun g hg => hk g (by simp [hg])) h4⟩
theorem RepO.lt {w : World} {t : Option VT} {v : Value} {bs : List Nat} {out : List Value} (h : RepO w t v bs out) : ∀ g ∈ bs, g < w.heap.size := fun g hg => by
  cases t with
  | none => rw [h.2.1] at hg; simp at hg
  | some t => exact RepV.lt _ _ _ (RepS.repV _ _ _ _ h.1) g hg
theorem RepOs.lt {w : World} : ∀ (l : List (Option VT)) (vs : List Value) (bs : List Nat) (out : List Value), RepOs w l vs bs out → ∀ g ∈ bs, g < w.heap.size
  | [], vs, bs, out, h, g, hg => by rw [h.2.1] at hg; simp at hg
  | t :: r, vs, bs, out, h, g, hg => by
    obtain ⟨v, vr, b, br, o, ol, rfl, rfl, rfl, h3, h4⟩ := h
    rcases List.mem_append.1 hg with hg | hg
    · exact h3.lt g hg
    · exact RepOs.lt r vr br ol h4 g hg
theorem RepOs.app {w : World} : ∀ (l l' : List (Option VT)) (vs vs' : List Value) (bs bs' : List Nat) (out out' : List Value), RepOs w l vs bs out → RepOs w l' vs' bs' out' → RepOs w (l ++ l') (vs ++ vs') (bs ++ bs') (out ++ out')
  | [], l', vs, vs', bs, bs', out, out', h, h' => by
    obtain ⟨rfl, rfl, rfl⟩ := h
    exact h'
  | t :: r, l', vs, vs', bs, bs', out, out', h, h' => by
    obtain ⟨v, vr, b, br, o, ol, rfl, rfl, rfl, h3, h4⟩ := h
    exact ⟨v, vr ++ vs', b, br ++ bs', o, ol ++ out', by simp, by simp, by simp, h3, RepOs.app r l' vr vs' br bs' ol out' h4 h'⟩
theorem RepOs.one {w : World} {t : Option VT} {v : Value} {bs : List Nat} {out : List Value} (h : RepO w t v bs out) : RepOs w [t] [v] bs out := ⟨v, [], bs, [], out, [], rfl, by simp, by simp, h, rfl, rfl, rfl⟩
theorem RepOs.length {w : World} : ∀ (l : List (Option VT)) (vs : List Value) (bs : List Nat) (out : List Value), RepOs w l vs bs out → vs.length = l.length
  | [], vs, bs, out, h => by rw [h.1]; rfl
  | t :: r, vs, bs, out, h => by
    obtain ⟨v, vr, b, br, o, ol, rfl, rfl, rfl, h3, h4⟩ := h
    simp [RepOs.length r vr br ol h4]
theorem outs_o {w : World} (t : Option VT) (v : Value) (bs : List Nat) (out : List Value) (h : RepO w t v bs out) (hn : bs.Nodup) : ∃ rs : List Rw, out = rs.map rowV ∧ (rs.map (·.1)).Nodup ∧ rs.length ≤ 70000 ∧ ∀ r ∈ rs, r.1 ∈ bs ∧ RowAt w r := by
  cases t with
  | none => exact ⟨[], by rw [h.2.2]; rfl, by simp, by simp, by simp⟩
  | some t =>
    obtain ⟨rs, e1, e2, e3, e4⟩ := outs_spec t v bs out h.1 hn h.2
    exact ⟨rs, e1, e2, Nat.le_trans e3 h.2, e4⟩
theorem outs_os {w : World} : ∀ (l : List (Option VT)) (vs : List Value) (bs : List Nat) (out : List Value), RepOs w l vs bs out → bs.Nodup → ∃ rs : List Rw, out = rs.map rowV ∧ (rs.map (·.1)).Nodup ∧ rs.length ≤ 70000 * l.length ∧ ∀ r ∈ rs, r.1 ∈ bs ∧ RowAt w r
  | [], vs, bs, out, h, hn => ⟨[], by rw [h.2.2]; rfl, by simp, by simp, by simp⟩
  | t :: q, vs, bs, out, h, hn => by
    obtain ⟨v, vr, b, br, o, ol, rfl, rfl, rfl, h3, h4⟩ := h
    obtain ⟨hn1, hn2, hn3⟩ := List.nodup_append.1 hn
    obtain ⟨rs, e1, e2, e3, e4⟩ := outs_o t v b o h3 hn1
    obtain ⟨rr, f1, f2, f3, f4⟩ := outs_os q vr br ol h4 hn2
    refine ⟨rs ++ rr, by rw [e1, f1, List.map_append], ?_, by rw [List.length_append, List.length_cons]; omega, fun r hr => ?_⟩
    · rw [List.map_append, List.nodup_append]
      refine ⟨e2, f2, fun a ha b hb hab => ?_⟩
      obtain ⟨r1, hr1, rfl⟩ := List.mem_map.1 ha
      obtain ⟨r2, hr2, rfl⟩ := List.mem_map.1 hb
      exact hn3 r1.1 (e4 r1 hr1).1 r2.1 (f4 r2 hr2).1 hab
    · rcases List.mem_append.1 hr with hr | hr
      · exact ⟨List.mem_append_left _ (e4 r hr).1, (e4 r hr).2⟩
      · exact ⟨List.mem_append_right _ (f4 r hr).1, (f4 r hr).2⟩
set_option maxHeartbeats 1000000 in
theorem ls_none (w : World) (base n : Nat) (lv : Value) (rows : List Value) (h : w.ownsRow base 61 1 lv n rows) : Calls Tryd.prog 42 #[.nilIface, lv] w (LsR w base lv n rows []) := by
  go_enter Tryd.func42, Tryd.ntmps42
  go_wp2_with fail
  go_ret
  exact ls_same h
theorem ls_o (t : Option VT) (w : World) (v : Value) (bs : List Nat) (out : List Value) (base n : Nat) (lv : Value) (rows : List Value) (h : RepO w t v bs out) (ho : w.ownsRow base 61 1 lv n rows) (hd : ∀ g ∈ bs, lv.ownBlock ≠ some g)
    (hn : n + out.length ≤ 10000000) (hb : base ≤ w.heap.size) : Calls Tryd.prog 42 #[v, lv] w (LsR w base lv n rows out) := by
  cases t with
  | none =>
    obtain ⟨rfl, rfl, rfl⟩ := h
    exact ls_none w base n lv rows ho
  | some t => exact ls_any t w v bs out base n lv rows h.1 h.2 ho hd hn hb
theorem nd4 (B : Nat) (a b c : Option Nat) (rs : List Nat) : (B :: (a.toList ++ b.toList ++ c.toList ++ rs)).Nodup ↔ (∀ x, a = some x → x ≠ B ∧ b ≠ some x ∧ c ≠ some x ∧ x ∉ rs) ∧ (∀ x, b = some x → x ≠ B ∧ c ≠ some x ∧ x ∉ rs) ∧ (∀ x, c = some x → x ≠ B ∧ x ∉ rs) ∧ B ∉ rs ∧ rs.Nodup := by
  cases a <;> cases b <;> cases c <;> simp [List.nodup_cons, eq_comm] <;> grind
theorem mem_bkB {B : Nat} {rows : List Rw} {lv nv kv : Value} {g : Nat} : g ∈ bkB B rows lv nv kv ↔ g = B ∨ lv.ownBlock = some g ∨ nv.ownBlock = some g ∨ kv.ownBlock = some g ∨ ∃ r ∈ rows, r.1 = g := by
  simp [bkB]
theorem BK.setz {base B : Nat} {w w' : World} {rows : List Rw} {lv nv kv : Value} {z z2 : Int} {ks : List Value} (h : BK base w B rows lv nv kv z ks) (hc : BKc w' B lv nv z2 kv) (hk : ∀ g, g ≠ B → g < w.heap.size → w'.heap[g]? = w.heap[g]?) (hz : 0 ≤ z2) : BK base w' B rows lv nv kv z2 ks := by
  have hn := (nd4 _ _ _ _ _).1 h.nd
  have hl := h.lt
  refine ⟨hc, ownsRow_keep h.l (fun g e => hk g (hn.1 g e).1 (hl g (mem_bkB.2 (.inr (.inl e)))).2), ownsRow_keep h.n (fun g e => hk g (hn.2.1 g e).1 (hl g (mem_bkB.2 (.inr (.inr (.inl e))))).2), ownsRow_keep h.k (fun g e => hk g (hn.2.2.1 g e).1 (hl g (mem_bkB.2 (.inr (.inr (.inr (.inl e)))))).2),
    h.m.keep (fun r hr => hk r.1 (fun e => hn.2.2.2.1 (e ▸ List.mem_map.2 ⟨r, hr, rfl⟩)) (hl r.1 (mem_bkB.2 (.inr (.inr (.inr (.inr ⟨r, hr, rfl⟩)))))).2), hz, h.nd, h.hb, h.rb⟩
/-- One list more. -/
theorem BK.snoc {base B : Nat} {w w' : World} {rows : List Rw} {lv nv kv lv' nv' : Value} {z : Int} {ks : List Value} {r : Rw} (h : BK base w B rows lv nv kv z ks) (hc : BKc w' B lv' nv' z kv)
    (hl : w'.ownsRow base 61 1 lv' (rows.length + 1) (rows.map rowV ++ [rowV r])) (hn : w'.ownsRow base 3 1 nv' (rows.length + 1) ((rows.map fun r => Value.int .i64 (r.2.1 : Nat)) ++ [.int .i64 (r.2.1 : Nat)]))
    (hk : ∀ g, g ≠ B → g ≠ r.1 → lv.ownBlock ≠ some g → nv.ownBlock ≠ some g → g < w.heap.size → w'.heap[g]? = w.heap[g]?) (hm : Marked w' rows.length r) (hr : r.1 < w.heap.size) (hrb : base ≤ r.1) (hrn : r.1 ∉ bkB B rows lv nv kv)
    (hl2 : ∀ g, lv'.ownBlock = some g → lv.ownBlock = some g ∨ w.heap.size ≤ g) (hn2 : ∀ g, nv'.ownBlock = some g → (nv.ownBlock = some g ∨ w.heap.size ≤ g) ∧ lv'.ownBlock ≠ some g) : BK base w' B (rows ++ [r]) lv' nv' kv z ks := by
  have hnd := (nd4 _ _ _ _ _).1 h.nd
  have hlt := h.lt
  have hrn' := fun x => hrn (mem_bkB.2 x)
  have hBlt := (hlt B (mem_bkB.2 (.inl rfl))).2
  refine ⟨hc, by simpa using hl, by simpa using hn, ownsRow_keep h.k (fun g e => ?_), MarkedAll.snoc (h.m.keep (fun q hq => ?_)) hm, h.z0, ?_, h.hb, fun q hq => ?_⟩
  · exact hk g (hnd.2.2.1 g e).1 (fun e2 => hrn' (.inr (.inr (.inr (.inl (e2 ▸ e)))))) (fun e2 => (hnd.1 g e2).2.2.1 e) (fun e2 => (hnd.2.1 g e2).2.1 e) (hlt g (mem_bkB.2 (.inr (.inr (.inr (.inl e)))))).2
  · have hqm : q.1 ∈ rows.map (·.1) := List.mem_map.2 ⟨q, hq, rfl⟩
    exact hk q.1 (fun e => hnd.2.2.2.1 (e ▸ hqm)) (fun e => hrn' (.inr (.inr (.inr (.inr ⟨q, hq, e⟩))))) (fun e => (hnd.1 q.1 e).2.2.2 hqm) (fun e => (hnd.2.1 q.1 e).2.2 hqm) (hlt q.1 (mem_bkB.2 (.inr (.inr (.inr (.inr ⟨q, hq, rfl⟩)))))).2
  · have hrl : ∀ x, x ∈ (rows ++ [r]).map (·.1) → x ∈ rows.map (·.1) ∨ x = r.1 := fun x hx => by
      simp only [List.map_append, List.mem_append, List.map_cons, List.map_nil, List.mem_singleton] at hx; exact hx
    have hold : ∀ x, x ∈ (rows ++ [r]).map (·.1) → x < w.heap.size := fun x hx => by
      rcases hrl x hx with h1 | h1
      · obtain ⟨q, hq, rfl⟩ := List.mem_map.1 h1
        exact (hlt q.1 (mem_bkB.2 (.inr (.inr (.inr (.inr ⟨q, hq, rfl⟩)))))).2
      · omega
    refine (nd4 _ _ _ _ _).2 ⟨fun x hx => ?_, fun x hx => ?_, fun x hx => ?_, fun hx => ?_, ?_⟩
    · refine ⟨?_, fun e => (hn2 x e).2 hx, ?_, ?_⟩
      · rcases hl2 x hx with h1 | h1
        · exact (hnd.1 x h1).1
        · omega
      · rcases hl2 x hx with h1 | h1
        · exact (hnd.1 x h1).2.2.1
        · intro e
          have := (hlt x (mem_bkB.2 (.inr (.inr (.inr (.inl e)))))).2
          omega
      · rcases hl2 x hx with h1 | h1
        · intro hm
          rcases hrl x hm with h2 | h2
          · exact (hnd.1 x h1).2.2.2 h2
          · exact hrn' (.inr (.inl (h2 ▸ h1)))
        · intro hm
          have := hold x hm; omega
    · refine ⟨?_, ?_, ?_⟩
      · rcases (hn2 x hx).1 with h1 | h1
        · exact (hnd.2.1 x h1).1
        · omega
      · rcases (hn2 x hx).1 with h1 | h1
        · exact (hnd.2.1 x h1).2.1
        · intro e
          have := (hlt x (mem_bkB.2 (.inr (.inr (.inr (.inl e)))))).2
          omega
      · rcases (hn2 x hx).1 with h1 | h1
        · intro hm
          rcases hrl x hm with h2 | h2
          · exact (hnd.2.1 x h1).2.2 h2
          · exact hrn' (.inr (.inr (.inl (h2 ▸ h1))))
        · intro hm
          have := hold x hm; omega
    · refine ⟨(hnd.2.2.1 x hx).1, fun hm => ?_⟩
      rcases hrl x hm with h2 | h2
      · exact (hnd.2.2.1 x hx).2 h2
      · exact hrn' (.inr (.inr (.inr (.inl (h2 ▸ hx)))))
    · rcases hrl B hx with h2 | h2
      · exact hnd.2.2.2.1 h2
      · exact hrn' (.inl h2.symm)
    · rw [List.map_append, List.nodup_append]
      refine ⟨hnd.2.2.2.2, by simp, fun a ha b hb hab => ?_⟩
      simp at hb
      obtain ⟨q, hq, rfl⟩ := List.mem_map.1 ha
      exact hrn' (.inr (.inr (.inr (.inr ⟨q, hq, hab.trans hb⟩))))
  · rcases List.mem_append.1 hq with h1 | h1
    · exact h.rb q h1
    · simp at h1; subst h1; exact hrb
end

section
open Go.RowKit
set_option maxRecDepth 100000
theorem size_da (w : World) (o : Obj) : ((w.drew).alloc o).heap.size = w.heap.size + 1 := by rw [show (w.drew.alloc o).heap = w.heap.push o from rfl, Array.size_push]
/-- What an append through a field leaves. -/
theorem app_done {W w1 : World} {B base e n2 g2 cap2 : Nat} {lvi : Value} {o : Obj} {xs : List Value} {cs : Array Value} {t : TypeId} (hq : w1.heap[B]? = some (.cells cs t (0, 0))) (hown : w1.ownsRow base e 1 (.slice (some ⟨g2, 0, none⟩) n2 cap2) n2 xs)
    (hgrow : ((W.drew).alloc o).grownBy w1 lvi.ownBlock) (hat : lvi.ownBlock = some g2 ∨ g2 = ((W.drew).alloc o).heap.size) (hne : some B ≠ lvi.ownBlock) (hB : B < W.heap.size) (j : Nat) (v : Value) :
    (w1.setCell ⟨B, j, none⟩ v).heap[B]? = some (.cells (cs.set! j v) t (0, 0)) ∧ (w1.setCell ⟨B, j, none⟩ v).ownsRow base e 1 (.slice (some ⟨g2, 0, none⟩) n2 cap2) n2 xs ∧
      KBs (B :: lvi.ownBlock.toList) W (w1.setCell ⟨B, j, none⟩ v) ∧ ∀ g, (Value.slice (some ⟨g2, 0, none⟩) n2 cap2).ownBlock = some g → lvi.ownBlock = some g ∨ W.heap.size ≤ g := by
  have hs := size_da W o
  refine ⟨heap_set hq v, ownsRow_keep hown (fun g e => heap_set_ne v (fun h => ?_)), ⟨hgrow.os, hgrow.tape, hgrow.output, ?_, fun b hb hn => ?_⟩, fun g e => ?_⟩
  · simp [Value.ownBlock] at e; subst e
    rcases hat with h1 | h1
    · exact hne (h ▸ h1.symm)
    · omega
  · have := hgrow.size
    simp only [World.setCell, Array.size_modify]; omega
  · rw [heap_set_ne v (fun h => hn (by simp [h])), hgrow.block b (by omega) (fun h => hn (by simp [← h]))]
    exact Below.heap_alloc W.drew _ _ hb
  · simp [Value.ownBlock] at e; subst e
    rcases hat with h1 | h1
    · exact .inl h1
    · right; omega
/-- Where Take's second loop stands. -/
structure TkRel (w : World) (base B : Nat) (rows rs : List Rw) (lv nv kv : Value) (z : Int) (ks : List Value) (bs : List Nat) (lla : Option Addr) (LB llc : Nat) (i : Nat) (lvi nvi : Value) (zi : Int) (wr : World) : Prop where
  hz : zi ≤ max z 2097152
  h0 : 0 ≤ zi
  bk : BK base wr B (rows ++ rs.take i) lvi nvi kv zi ks
  la : 0 < rs.length → lla = some ⟨LB, 0, none⟩
  ll : wr.ownsRow w.heap.size 61 1 (.slice lla rs.length llc) rs.length (rs.map rowV)
  ra : ∀ r ∈ rs.drop i, RowAt wr r
  kb : KBs (bkB B rows lv nv kv ++ bs) w wr
  nl : ∀ g, lvi.ownBlock = some g → lv.ownBlock = some g ∨ (w.heap.size ≤ g ∧ LB ≠ g)
  nn : ∀ g, nvi.ownBlock = some g → nv.ownBlock = some g ∨ (w.heap.size ≤ g ∧ LB ≠ g)
structure TkCtx (w : World) (base B : Nat) (rows rs : List Rw) (lv nv kv : Value) (z : Int) (ks : List Value) (bs : List Nat) : Prop where
  bk : BK base w B rows lv nv kv z ks
  bd : ∀ g ∈ bs, base ≤ g ∧ g ∉ bkB B rows lv nv kv
  bl : ∀ g ∈ bs, g < w.heap.size
  nd : (rs.map (·.1)).Nodup
  rb : ∀ r ∈ rs, r.1 ∈ bs
section
variable {w : World} {base B : Nat} {rows rs : List Rw} {lv nv kv : Value} {z : Int} {ks : List Value} {bs : List Nat} {lla : Option Addr} {LB llc i : Nat} {lvi nvi : Value} {zi : Int} {wr : World}
theorem TkRel.farLB (T : TkRel w base B rows rs lv nv kv z ks bs lla LB llc i lvi nvi zi wr) (C : TkCtx w base B rows rs lv nv kv z ks bs) (hi : i < rs.length) : w.heap.size ≤ LB ∧ LB < wr.heap.size ∧ LB ≠ B ∧ lvi.ownBlock ≠ some LB ∧ nvi.ownBlock ≠ some LB := by
  have h1 := T.ll.lt LB (by rw [T.la (by omega)]; rfl)
  have hlt := C.bk.lt
  refine ⟨h1.1, h1.2, ?_, fun e => ?_, fun e => ?_⟩
  · have := (hlt B (mem_bkB.2 (.inl rfl))).2; omega
  · rcases T.nl LB e with h | h
    · have := (hlt LB (mem_bkB.2 (.inr (.inl h)))).2; omega
    · exact h.2 rfl
  · rcases T.nn LB e with h | h
    · have := (hlt LB (mem_bkB.2 (.inr (.inr (.inl h))))).2; omega
    · exact h.2 rfl
theorem TkRel.farR (T : TkRel w base B rows rs lv nv kv z ks bs lla LB llc i lvi nvi zi wr) (C : TkCtx w base B rows rs lv nv kv z ks bs) {r : Rw} (hr : r ∈ rs) : r.1 < w.heap.size ∧ r.1 ≠ B ∧ lvi.ownBlock ≠ some r.1 ∧ nvi.ownBlock ≠ some r.1 ∧ kv.ownBlock ≠ some r.1 ∧ ∀ q ∈ rows, q.1 ≠ r.1 := by
  have hm := C.rb r hr
  have hl := C.bl _ hm
  have hn := fun x => (C.bd _ hm).2 (mem_bkB.2 x)
  refine ⟨hl, fun e => hn (.inl e), fun e => ?_, fun e => ?_, fun e => hn (.inr (.inr (.inr (.inl e)))), fun q hq e => hn (.inr (.inr (.inr (.inr ⟨q, hq, e⟩))))⟩
  · rcases T.nl _ e with h | h
    · exact hn (.inr (.inl h))
    · omega
  · rcases T.nn _ e with h | h
    · exact hn (.inr (.inr (.inl h)))
    · omega
theorem TkRel.row (T : TkRel w base B rows rs lv nv kv z ks bs lla LB llc i lvi nvi zi wr) (hi : i < rs.length) : wr.cell? ⟨LB, i, none⟩ = some (rowV rs[i]) := by
  have x0 := T.ll.cells (g := LB) (by rw [T.la (by omega)]; rfl) i (rowV rs[i]) (by rw [List.getElem?_map, List.getElem?_eq_getElem hi]; rfl)
  rwa [show (⟨LB, 0, none⟩ : Addr).add i = ⟨LB, i, none⟩ from by unfold Addr.add; split <;> simp_all] at x0
theorem take_step {W8 W10 W11 W12 : World} {lv2 nv2 : Value} {z2 : Int} (T : TkRel w base B rows rs lv nv kv z ks bs lla LB llc i lvi nvi zi wr) (C : TkCtx w base B rows rs lv nv kv z ks bs) (hi : i < rs.length) (h8 : BK base W8 B (rows ++ rs.take i) lvi nvi kv z2 ks) (k8 : KBs [B] wr W8) (hz2 : z2 ≤ 2097152)
    (l10 : W10.ownsRow base 61 1 lv2 ((rows ++ rs.take i).length + 1) ((rows ++ rs.take i).map rowV ++ [rowV rs[i]])) (k10 : KBs (B :: lvi.ownBlock.toList) W8 W10) (n10 : ∀ g, lv2.ownBlock = some g → lvi.ownBlock = some g ∨ W8.heap.size ≤ g)
    (c11 : BKc W11 B lv2 nv2 z2 kv) (l11 : W11.ownsRow base 3 1 nv2 ((rows ++ rs.take i).length + 1) (((rows ++ rs.take i).map fun r => Value.int .i64 (r.2.1 : Nat)) ++ [.int .i64 (rs[i].2.1 : Nat)])) (k11 : KBs (B :: nvi.ownBlock.toList) W10 W11) (n11 : ∀ g, nv2.ownBlock = some g → nvi.ownBlock = some g ∨ W10.heap.size ≤ g)
    (k12 : KBs [rs[i].1] W11 W12) (hm : Marked W12 (rows ++ rs.take i).length rs[i]) : TkRel w base B rows rs lv nv kv z ks bs lla LB llc (i + 1) lv2 nv2 z2 W12 := by
  have hLB := T.farLB C hi
  have hR := fun (r : Rw) (hr : r ∈ rs) => T.farR C hr
  have hRi := hR rs[i] (List.getElem_mem hi)
  have hri : rs[i] ∈ rs := List.getElem_mem hi
  have s8 := k8.size
  have s10 := k10.size
  have s11 := k11.size
  have s12 := k12.size
  have sw := T.kb.size
  have hnd := (nd4 _ _ _ _ _).1 h8.nd
  have hlt := h8.lt
  have hBlt := (hlt B (mem_bkB.2 (.inl rfl))).2
  have l2lt := fun g e => (l10.lt g e).2
  have lvlt : ∀ g, lvi.ownBlock = some g → g < W8.heap.size := fun g e => (hlt g (mem_bkB.2 (.inr (.inl e)))).2
  have nvlt : ∀ g, nvi.ownBlock = some g → g < W8.heap.size := fun g e => (hlt g (mem_bkB.2 (.inr (.inr (.inl e))))).2
  have l2B : ∀ g, lv2.ownBlock = some g → g ≠ B := fun g e e2 => by
    subst e2
    rcases n10 _ e with h | h
    · exact (hnd.1 _ h).1 rfl
    · omega
  have l2N : ∀ g, lv2.ownBlock = some g → nvi.ownBlock ≠ some g := fun g e e2 => by
    rcases n10 _ e with h | h
    · exact (hnd.1 _ h).2.1 e2
    · have := nvlt g e2; omega
  have l2R : ∀ g, lv2.ownBlock = some g → g ≠ rs[i].1 := fun g e e2 => by
    rcases n10 _ e with h | h
    · exact hRi.2.2.1 (e2 ▸ h)
    · omega
  have n2B : ∀ g, nv2.ownBlock = some g → g ≠ B := fun g e e2 => by
    subst e2
    rcases n11 _ e with h | h
    · exact (hnd.2.1 _ h).1 rfl
    · omega
  have n2R : ∀ g, nv2.ownBlock = some g → g ≠ rs[i].1 := fun g e e2 => by
    rcases n11 _ e with h | h
    · exact hRi.2.2.2.1 (e2 ▸ h)
    · omega
  have key : ∀ g, g < W8.heap.size → g ≠ B → lvi.ownBlock ≠ some g → nvi.ownBlock ≠ some g → g ≠ rs[i].1 → W12.heap[g]? = W8.heap[g]? := fun g h1 h2 h3 h4 h5 => by
    rw [k12.block g (by omega) (by simpa using h5), k11.block g (by omega) (by simp [h2]; exact h4), k10.block g h1 (by simp [h2]; exact h3)]
  have key2 : ∀ g, g < wr.heap.size → g ≠ B → lvi.ownBlock ≠ some g → nvi.ownBlock ≠ some g → g ≠ rs[i].1 → W12.heap[g]? = wr.heap[g]? := fun g h1 h2 h3 h4 h5 => by
    rw [key g (by omega) h2 h3 h4 h5, k8.block g h1 (by simpa using h2)]
  have htk : rs.take (i + 1) = rs.take i ++ [rs[i]] := List.take_succ_eq_append_getElem hi
  have hrn : rs[i].1 ∉ bkB B (rows ++ rs.take i) lvi nvi kv := fun hmm => by
    rcases mem_bkB.1 hmm with h | h | h | h | ⟨q, hq, h⟩
    · exact hRi.2.1 h
    · exact hRi.2.2.1 h
    · exact hRi.2.2.2.1 h
    · exact hRi.2.2.2.2.1 h
    · rcases List.mem_append.1 hq with hq | hq
      · exact hRi.2.2.2.2.2 q hq h
      · have := C.nd
        rw [← List.take_append_drop (i + 1) rs, htk, List.map_append, List.map_append, List.nodup_append, List.nodup_append] at this
        exact this.1.2.2 q.1 (List.mem_map.2 ⟨q, hq, rfl⟩) rs[i].1 (by simp) h
  refine ⟨by omega, h8.z0, ?_, T.la, ?_, ?_, ?_, ?_, ?_⟩
  · rw [htk, ← List.append_assoc]
    refine h8.snoc ((k12.block B (by omega) (by simpa using fun e => hRi.2.1 e.symm)).trans c11) ?_ ?_ (fun g h1 h2 h3 h4 h5 => key g h5 h1 h3 h4 h2) hm (by omega) (C.bd _ (C.rb _ hri)).1 hrn n10 (fun g e => ⟨?_, fun e2 => ?_⟩)
    · exact ownsRow_keep l10 (fun g e => (k12.block g (by have := l2lt g e; omega) (by simpa using l2R g e)).trans (k11.block g (l2lt g e) (by simp [l2B g e]; exact l2N g e)))
    · exact ownsRow_keep l11 (fun g e => k12.block g (l11.lt g e).2 (by simpa using n2R g e))
    · rcases n11 g e with h | h
      · exact .inl h
      · right; omega
    · rcases n11 g e with h | h
      · exact l2N g e2 h
      · have := l2lt g e2; omega
  · exact ownsRow_keep T.ll (fun g e => by
      rw [T.la (by omega)] at e
      simp [Value.ownBlock] at e; subst e
      exact key2 _ hLB.2.1 hLB.2.2.1 hLB.2.2.2.1 hLB.2.2.2.2 (by omega))
  · intro r hr
    have hrm : r ∈ rs := List.mem_of_mem_drop hr
    have hRr := hR r hrm
    refine (T.ra r ?_).keep (key2 r.1 (by omega) hRr.2.1 hRr.2.2.1 hRr.2.2.2.1 (fun e => ?_))
    · rw [List.drop_eq_getElem_cons hi]; exact List.mem_cons_of_mem _ hr
    · have := C.nd
      rw [← List.take_append_drop (i + 1) rs, htk, List.map_append, List.map_append, List.nodup_append] at this
      exact this.2.2 rs[i].1 (by simp) r.1 (List.mem_map.2 ⟨r, hr, rfl⟩) e.symm
  · refine T.kb.trans (cs := B :: (lvi.ownBlock.toList ++ nvi.ownBlock.toList ++ [rs[i].1])) ⟨?_, ?_, ?_, by omega, fun g h1 h2 => ?_⟩ (fun g hg => ?_)
    · rw [k12.os, k11.os, k10.os, k8.os]
    · rw [k12.tape, k11.tape, k10.tape, k8.tape]
    · rw [k12.output, k11.output, k10.output, k8.output]
    · simp at h2
      exact key2 g h1 h2.1 h2.2.1 h2.2.2.1 h2.2.2.2
    · simp at hg
      rcases hg with rfl | h | h | rfl
      · exact .inl (by simp [bkB])
      · rcases T.nl g h with h | h
        · exact .inl (by simp [bkB, h])
        · exact .inr h.1
      · rcases T.nn g h with h | h
        · exact .inl (by simp [bkB, h])
        · exact .inr h.1
      · exact .inl (List.mem_append_right _ (C.rb _ hri))
  · intro g e
    rcases n10 g e with h | h
    · exact T.nl g h
    · right; omega
  · intro g e
    rcases n11 g e with h | h
    · exact T.nn g h
    · right; omega
end
end

section
open Go.RowKit
set_option maxRecDepth 100000
theorem info3 : (Tryd.prog.info? 3).map (fun i => (i.zero, i.size, i.bytes)) = some (some (.int .i64 0), 1, 8) := by kernel_rfl
set_option maxHeartbeats 8000000 in
theorem take_any (w : World) (base B : Nat) (rows : List Rw) (lv nv kv av : Value) (z : Int) (ks : List Value) (ts : List (Option VT)) (vs : List Value) (bs : List Nat) (out : List Value)
    (hbk : BK base w B rows lv nv kv z ks) (hr : RepOs w ts vs bs out) (hnd : bs.Nodup) (hd : ∀ g ∈ bs, base ≤ g ∧ g ∉ bkB B rows lv nv kv) (hav : w.ownsRow 0 30 1 av ts.length vs) (havd : ∀ g, av.ownBlock = some g → g ∉ bs ∧ g ≠ B ∧ lv.ownBlock ≠ some g ∧ nv.ownBlock ≠ some g)
    (hts : ts.length ≤ 100) (hrl : rows.length ≤ 10000000) (hz : z ≤ 1000000000000) :
    Calls Tryd.prog 23 #[.pointer (some ⟨B, 0, none⟩), av] w fun e w' => e = .returned (.tuple #[]) ∧ ∃ rows2 lv' nv' z', BK base w' B (rows ++ rows2) lv' nv' kv z' ks ∧ (∀ r ∈ rows2, r.1 ∈ bs) ∧ z' ≤ max z 2097152 + 140010 ∧ rows2.length ≤ out.length ∧
      KBs (bkB B rows lv nv kv ++ bs) w w' ∧ (∀ g, lv'.ownBlock = some g → lv.ownBlock = some g ∨ w.heap.size ≤ g) ∧ (∀ g, nv'.ownBlock = some g → nv.ownBlock = some g ∨ w.heap.size ≤ g) := by
  obtain ⟨la, lc, rfl, hmx, hca⟩ := own_cells hav
  obtain ⟨i61, hi61, hq0, hq1, hq2⟩ := info_parts info61
  obtain ⟨i3, hi3, hp0, hp1, hp2⟩ := info_parts info3
  have HQ61 := Lib.hid (And.intro hi61 (And.intro hq0 (And.intro hq1 hq2)))
  have HP3 := Lib.hid (And.intro hi3 (And.intro hp0 (And.intro hp1 hp2)))
  clear hi61 hq0 hq1 hq2 hi3 hp0 hp1 hp2
  obtain ⟨rs, ho1, ho2, ho3, ho4⟩ := outs_os ts vs bs out hr hnd
  have hblt : ∀ g ∈ bs, g < w.heap.size := fun g hg => RepOs.lt _ _ _ _ hr g hg
  have hol : out.length ≤ 7000000 := by rw [ho1, List.length_map]; omega
  have HBK := Lib.hid hbk
  have HR := Lib.hid hr
  have HND := Lib.hid hnd
  have HD := Lib.hid hd
  have HAD := Lib.hid havd
  have HA := Lib.hid hca
  have HRS := Lib.hid (And.intro ho1 (And.intro ho2 ho4))
  have HBL := Lib.hid hblt
  have HOL := Lib.hid hol
  clear hbk hr hnd hd havd hca ho1 ho2 ho3 ho4 hblt hav hol
  go_enter Tryd.func23, Tryd.ntmps23
  go_wp2_with fail
  go_loopw [4, 5] (fun sv iv wr => ∃ (i : Nat) (o1 o2 : List Value) (b2 : List Nat), i ≤ ts.length ∧ iv = .int .i64 i ∧ Hid (RepOs w (ts.drop i) (vs.drop i) b2 o2) ∧ Hid (∀ g ∈ b2, g ∈ bs) ∧ Hid (o1 ++ o2 = out) ∧
      Hid (wr.ownsRow w.heap.size 61 1 sv o1.length o1) ∧ Hid (Below w.heap.size w wr))
    (fun _ iv _ => ts.length - (intOf iv).toNat)
  case atStart => exact ⟨0, [], out, bs, by omega, rfl, Lib.hid (by simpa using HR.out), Lib.hid (fun g hg => hg), Lib.hid rfl, Lib.hid ⟨rfl, .inl ⟨rfl, rfl⟩⟩, Lib.hid (Below.refl _ _)⟩
  case round =>
    obtain ⟨i, o1, o2, b2, hi, rfl, hr, hsub, ho, how, hB⟩ := hrel
    by_cases hlt : i < ts.length
    · obtain ⟨g, rfl, hg⟩ := HA.out (by omega)
      have hr' := hr.out
      rw [List.drop_eq_getElem_cons hlt] at hr'
      obtain ⟨v, vr, b3, b4, o3, o4, hv1, rfl, rfl, hv, hvr⟩ := hr'
      have hvi : vs[i]? = some v := by
        have : (vs.drop i)[0]? = some v := by rw [hv1]; rfl
        rw [List.getElem?_drop] at this
        simpa using this
      have hv2 : vr = vs.drop (i + 1) := by
        have := drop_cons' hvi
        rw [hv1] at this
        simp only [List.cons.injEq, true_and] at this
        exact this
      subst hv2
      have hx := cell_stepA (hg i _ hvi) hB.out
      have hcall : Calls Tryd.prog 42 #[v, u4] wr (LsR wr w.heap.size u4 o1.length o1 o3) := by
        refine ls_o ts[i] wr _ b3 o3 w.heap.size _ _ _ (RepO.keep (fun b hb => hB.out.block b (HBL.out b (hsub.out b (List.mem_append_left _ hb)))) hv) how.out (fun b hb e => ?_) ?_ hB.out.size
        · have h1 := HBL.out b (hsub.out b (List.mem_append_left _ hb))
          have h2 := (how.out.lt b e).1
          omega
        · have h1 := congrArg List.length ho.out
          have h2 := HOL.out
          simp at h1; omega
      have hform : v = .nilIface ∨ ∃ ty u, v = .iface ty u := by
        generalize ts[i] = t at hv
        cases t with
        | none => exact .inl hv.1
        | some t => exact .inr (RepS.repV _ _ _ _ hv.1).iface
      have HC := Lib.hid hcall
      have HVR := Lib.hid hvr
      clear hcall hv hvr hvi hv1 hg
      rcases hform with rfl | ⟨ty, u, rfl⟩
      · go_wp2_with fail
        refine HC.out.mono ?_
        rintro e w1 ⟨lv', rfl, hown1, hk1, hnew1⟩
        have HO1 := Lib.hid hown1
        have HK1 := Lib.hid hk1
        clear hown1 hk1 hnew1
        go_wp2_with fail
        go_roundw
        case rel => exact ⟨i + 1, o1 ++ o3, o4, b4, by omega, by go_num, HVR, Lib.hid (fun g hg => hsub.out g (List.mem_append_right _ hg)), Lib.hid (by rw [List.append_assoc]; exact ho.out), Lib.hid (by
            have := HO1.out
            rw [List.length_append]; exact this), Lib.hid (hB.out.trans (HK1.out.below (fun b hb => (how.out.lt b (by simpa using hb)).1) hB.out.size))⟩
        case measure => simp [intOf]; omega
      · go_wp2_with fail
        refine HC.out.mono ?_
        rintro e w1 ⟨lv', rfl, hown1, hk1, hnew1⟩
        have HO1 := Lib.hid hown1
        have HK1 := Lib.hid hk1
        clear hown1 hk1 hnew1
        go_wp2_with fail
        go_roundw
        case rel => exact ⟨i + 1, o1 ++ o3, o4, b4, by omega, by go_num, HVR, Lib.hid (fun g hg => hsub.out g (List.mem_append_right _ hg)), Lib.hid (by rw [List.append_assoc]; exact ho.out), Lib.hid (by
            have := HO1.out
            rw [List.length_append]; exact this), Lib.hid (hB.out.trans (HK1.out.below (fun b hb => (how.out.lt b (by simpa using hb)).1) hB.out.size))⟩
        case measure => simp [intOf]; omega
    · obtain rfl : i = ts.length := by omega
      have hr' := hr.out
      rw [List.drop_length] at hr'
      obtain ⟨_, rfl, rfl⟩ := hr'
      have ho' := ho.out
      rw [List.append_nil] at ho'
      subst ho'
      obtain ⟨lla, llc, hls⟩ := own_slice how.out
      subst hls
      have HLL := Lib.hid how.out
      have HBw := Lib.hid hB.out
      clear hr hsub ho how hB
      go_wp2_with fail
      have hCtx : TkCtx w base B rows rs lv nv kv z ks bs := ⟨HBK.out, HD.out, HBL.out, HRS.out.2.1, fun r hr => (HRS.out.2.2 r hr).1⟩
      have HCX := Lib.hid hCtx
      have hlen : o1.length = rs.length := by have := congrArg List.length HRS.out.1; simpa using this
      have hLL : ∃ LB, (0 < rs.length → lla = some ⟨LB, 0, none⟩) := by
        rcases HLL.out.2 with ⟨e, h0⟩ | ⟨LB, cap2, cur2, e, hLB, _⟩
        · exact ⟨0, fun h => by omega⟩
        · simp only [Value.slice.injEq, true_and] at e
          exact ⟨LB, fun _ => e.1⟩
      obtain ⟨LB, hLL⟩ := hLL
      have HLA := Lib.hid hLL
      have HL2 : Hid (wr.ownsRow w.heap.size 61 1 (.slice lla rs.length llc) rs.length (rs.map rowV)) := by rw [← hlen, ← HRS.out.1]; exact HLL
      rw [hlen]
      have hrl2 : rs.length ≤ 7000000 := by have := HOL.out; omega
      have HLEN := Lib.hid hlen
      clear HLL hLL hlen
      go_loopw [6] (fun iv wr => ∃ (i : Nat) (lvi nvi : Value) (zi : Int), i ≤ rs.length ∧ iv = .int .i64 i ∧ Hid (TkRel w base B rows rs lv nv kv z ks bs lla LB llc i lvi nvi zi wr))
        (fun iv _ => rs.length - (intOf iv).toNat)
      case atStart =>
        have h0 := HBK.out
        refine ⟨0, lv, nv, z, by omega, rfl, Lib.hid ⟨by omega, h0.z0, by simpa using h0.keep (fun g hg => HBw.out.block g (h0.lt g hg).2), HLA.out, HL2.out, fun r hr => ?_, KBs.of_below HBw.out, fun g hg => .inl hg, fun g hg => .inl hg⟩⟩
        have h1 := HRS.out.2.2 r (by simpa using hr)
        exact h1.2.keep (HBw.out.block r.1 (HBL.out _ h1.1))
      case round =>
        obtain ⟨i, lvi, nvi, zi, hi, rfl, HT⟩ := hrel
        by_cases hlt : i < rs.length
        · obtain ⟨cur, hg, hcs, hnc, hcm, hn7⟩ := HT.out.ra rs[i] (by rw [List.drop_eq_getElem_cons hlt]; exact List.mem_cons_self)
          obtain rfl := HLA.out (by omega)
          have x0 := HT.out.row hlt
          have hfar := HT.out.farLB HCX.out hlt
          have HF := Lib.hid hfar
          have hzi := HT.out.hz
          have hzi0 := HT.out.h0
          obtain ⟨b2, f2⟩ := heapcell HT.out.bk.c 2
          have HG := Lib.hid hg
          have HCS := Lib.hid (And.intro hcs (And.intro hnc (And.intro hcm hn7)))
          have hcapI : ((rs[i].2.2 : Nat) : Int) ≤ 9223372036854775807 := by unfold maxLen at hcm; omega
          have hlenI : ((rs[i].2.1 : Nat) : Int) ≤ 70000 := by omega
          have hlen0 : (0 : Int) ≤ ((rs[i].2.1 : Nat) : Int) := by omega
          have hcap0 : (0 : Int) ≤ ((rs[i].2.2 : Nat) : Int) := by omega
          have hw1 : IntKind.i64.wrap (zi + 10) = zi + 10 := by exact IntWalk.i64_in _ (by omega)
          have hw2 : IntKind.i64.wrap (((rs[i].2.1 : Nat) : Int) + 70000) = ((rs[i].2.1 : Nat) : Int) + 70000 := by exact IntWalk.i64_in _ (by omega)
          obtain ⟨z2, hz2⟩ : ∃ z2 : Int, z2 = zi + 10 + min ((rs[i].2.2 : Nat) : Int) (((rs[i].2.1 : Nat) : Int) + 70000) := ⟨_, rfl⟩
          have hz2b : zi ≤ z2 ∧ z2 ≤ zi + 140010 := by omega
          have hw3 : IntKind.i64.wrap (zi + 10 + min ((rs[i].2.2 : Nat) : Int) (((rs[i].2.1 : Nat) : Int) + 70000)) = z2 := by rw [← hz2]; exact IntWalk.i64_in _ (by omega)
          have HW := Lib.hid (And.intro hz2b (And.intro hlenI hcapI))
          unfold rowV at x0
          have hltI : (i : Int) < (rs.length : Int) := by omega
          generalize hgg : rs[i].1 = g at x0
          generalize hnnn : rs[i].2.1 = n at x0 hw2 hw3
          generalize hcc : rs[i].2.2 = cp at x0 hw3
          have HEQ := Lib.hid (And.intro hgg (And.intro hnnn hcc))
          clear hg hcs hnc hcm hn7 hcapI hlenI hlen0 hcap0 hz2b hz2 hfar hgg hnnn hcc
          go_wp2_with fail
          go_still_tail 19, (by kernel_rfl)
          change wpList _ _ _ _ _ (World.drew _)
          generalize hW7 : World.drew wr = W7
          have hk7 : ∀ g : Nat, W7.heap[g]? = wr.heap[g]? := by subst hW7; intro g; rfl
          have f2' : W7.frozen? ⟨B, 2, none⟩ = false := by subst hW7; exact f2
          have b2' : W7.cell? ⟨B, 2, none⟩ = some (.int .i64 zi) := by subst hW7; exact b2
          have h8 : BK base (W7.setCell ⟨B, 2, none⟩ (.int .i64 z2)) B (rows ++ rs.take i) lvi nvi kv z2 ks :=
            HT.out.bk.setz (heap_set ((hk7 B).trans HT.out.bk.c) _) (fun g hg _ => (heap_set_ne _ hg).trans (hk7 g)) (by have := HW.out; omega)
          have hk8 : KBs [B] wr (W7.setCell ⟨B, 2, none⟩ (.int .i64 z2)) := by
            subst hW7
            exact ⟨rfl, rfl, rfl, by simp only [World.setCell, Array.size_modify]; exact Nat.le_refl _, fun b _ hb => heap_set_ne _ (by simpa using hb)⟩
          have H8 := Lib.hid h8
          have HK8 := Lib.hid hk8
          clear h8 hk8 hk7 hW7
          go_wp2_with fail
          · refine bodyPost_ret (v := .tuple #[]) (by simp [results, Tryd.results23, go_sem]) rfl ⟨rfl, rs.take i, lvi, nvi, z2, H8.out, fun r hr => HCX.out.rb r (List.mem_of_mem_take hr), by have := HW.out; omega, by have := HLEN.out; rw [List.length_take]; omega,
              HT.out.kb.trans HK8.out (fun b hb => .inl (by simp at hb; subst hb; simp [bkB])), fun g' hg' => (HT.out.nl g' hg').imp id (fun h => h.1), fun g' hg' => (HT.out.nn g' hg').imp id (fun h => h.1)⟩
          generalize hW8 : World.setCell W7 _ _ = W8 at H8 HK8 ⊢
          clear hW8 b2 f2 x0 b2' f2'
          have hbig : z2 ≤ 2097152 := by omega
          have HBIG := Lib.hid hbig
          have hBlt : B < W8.heap.size := (H8.out.lt B (mem_bkB.2 (.inl rfl))).2
          have y0 : W8.cell? ⟨LB, i, none⟩ = some (.slice (some ⟨g, 0, none⟩) n cp) := by
            rw [cellOf_heap (HK8.out.block LB HF.out.2.1 (by simpa using HF.out.2.2.1)), HT.out.row hlt]
            unfold rowV; rw [HEQ.out.1, HEQ.out.2.1, HEQ.out.2.2]
          obtain ⟨c0, fc0⟩ := heapcell H8.out.c 0
          have hNb : (rows ++ rs.take i).length ≤ 17000000 := by
            rw [List.length_append, List.length_take]; omega
          obtain ⟨N, hNN⟩ : ∃ N, N = (rows ++ rs.take i).length := ⟨_, rfl⟩
          have HNN := Lib.hid hNN
          rw [← hNN] at hNb
          clear hNN
          have HO8 : Hid ((W8.drew).ownsRow base 61 1 lvi N ((rows ++ rs.take i).map rowV)) := Lib.hid (by rw [HNN.out]; exact ownsRow_keep H8.out.l (fun _ _ => rfl))
          have HN1 : Hid (∀ u ∈ [Value.slice (some ⟨g, 0, none⟩) n cp], u.oneCell' = true) := Lib.hid (fun u hu => by simp at hu; subst hu; rfl)
          have HN2 : Hid (N + 1 ≤ maxLen) := Lib.hid (by unfold maxLen; omega)
          have HN3 : Hid ((N + 1) * 24 ≤ 140737488355328) := Lib.hid (by omega)
          have HN4 : Hid (∀ o, base ≤ ((W8.drew).alloc o).heap.size) := Lib.hid (fun o => by
            have := H8.out.hb
            rw [size_da]; omega)
          have HN5 : Hid (∀ o, B < ((W8.drew).alloc o).heap.size) := Lib.hid (fun o => by
            rw [size_da]; omega)
          have HN6 : Hid (∀ o, ((W8.drew).alloc o).heap[B]? = some (.cells #[lvi, nvi, .int .i64 z2, kv] 51 (0, 0))) := Lib.hid (fun o => (Below.heap_alloc W8.drew _ _ hBlt).trans H8.out.c)
          have HN7 : Hid (some B ≠ lvi.ownBlock) := Lib.hid (fun e => ((nd4 _ _ _ _ _).1 H8.out.nd).1 B e.symm |>.1 rfl)
          have c0a : (W8.alloc (.cells #[Value.slice (some ⟨g, 0, none⟩) n cp] 61)).cell? ⟨B, 0, none⟩ = some lvi := (heapcell ((Below.heap_alloc W8 _ _ hBlt).trans H8.out.c) 0).1
          have HBlt := Lib.hid hBlt
          have HNb := Lib.hid hNb
          clear hNb hBlt hbig
          go_cut [] from 52 to 64 (fun wx => ∃ lv2, Hid (BKc wx B lv2 nvi z2 kv ∧ wx.ownsRow base 61 1 lv2 (N + 1) ((rows ++ rs.take i).map rowV ++ [rowV rs[i]]) ∧ KBs (B :: lvi.ownBlock.toList) W8 wx ∧ ∀ g, lv2.ownBlock = some g → lvi.ownBlock = some g ∨ W8.heap.size ≤ g))
          case first =>
            go_region_law ((refine step_append_lies _ (by rfl) _ _ _ (by rfl) base 61 i61 (.slice none 0 0) 1 24 Tryd.underlying47 HQ61.out.1 HQ61.out.2.1 HQ61.out.2.2.1 HQ61.out.2.2.2 (by rfl) (by decide) _ _ _ (by rfl) (HO8.out.alloc _) ⟨W8.heap.size, 0, none⟩ 1 1 [.slice (some ⟨g, 0, none⟩) n cp] (by rfl) (by rfl) (one_new _ _ _) HN1.out (by decide) HN2.out HN3.out (HN4.out _) _ rfl ?_; intro g2 cap2 w1 hown1 hgrow1 hat1 hlt1; have hq := (hgrow1.block B (HN5.out _) HN7.out).trans (HN6.out _); obtain ⟨p0, f0⟩ := heapcell hq 0))
            all_goals
              have HAD := Lib.hid (app_done hq hown1 hgrow1 hat1 HN7.out HBlt.out 0 (.slice (some ⟨g2, 0, none⟩) (N + 1) cap2))
              clear hq hown1 hgrow1 hat1
              go_wp2_with fail
              go_meet
              refine ⟨_, Lib.hid ⟨HAD.out.1, ?_, HAD.out.2.2.1, HAD.out.2.2.2⟩⟩
              have := HAD.out.2.1
              unfold rowV; rw [HEQ.out.1, HEQ.out.2.1, HEQ.out.2.2]; exact this
          case rest =>
            obtain ⟨lv2, H10⟩ := hcut
            clear HO8 HN1 HN2 HN3 HN4 HN5 HN6 c0a c0 fc0 y0
            go_wp2_with fail
            generalize hW10 : wc = W10 at H10 ⊢
            clear hW10
            have hBlt : B < W10.heap.size := by have := H10.out.2.2.1.size; have := HBlt.out; omega
            have hNb := HNb.out
            have y0 : W10.cell? ⟨LB, i, none⟩ = some (.slice (some ⟨g, 0, none⟩) n cp) := by
              rw [cellOf_heap (H10.out.2.2.1.block LB (by have := HK8.out.size; have := HF.out.2.1; omega) (by have := HF.out; simp [this.2.2.1]; exact this.2.2.2.1)), cellOf_heap (HK8.out.block LB HF.out.2.1 (by simpa using HF.out.2.2.1)), HT.out.row hlt]
              unfold rowV; rw [HEQ.out.1, HEQ.out.2.1, HEQ.out.2.2]
            obtain ⟨c1, fc1⟩ := heapcell H10.out.1 1
            have hnn := (nd4 _ _ _ _ _).1 H8.out.nd
            have HO8 : Hid ((W10.drew).ownsRow base 3 1 nvi N ((rows ++ rs.take i).map fun r => Value.int .i64 (r.2.1 : Nat))) := Lib.hid (by
              rw [HNN.out]
              exact ownsRow_keep H8.out.n (fun b hb => H10.out.2.2.1.block b ((H8.out.n.lt b hb).2) (by simp [(hnn.2.1 b hb).1]; exact fun e => (hnn.1 b e).2.1 hb)))
            have HN1 : Hid (∀ u ∈ [Value.int .i64 (n : Int)], u.oneCell' = true) := Lib.hid (fun u hu => by simp at hu; subst hu; rfl)
            have HN2 : Hid (N + 1 ≤ maxLen) := Lib.hid (by unfold maxLen; omega)
            have HN3 : Hid ((N + 1) * 8 ≤ 140737488355328) := Lib.hid (by omega)
            have HN4 : Hid (∀ o, base ≤ ((W10.drew).alloc o).heap.size) := Lib.hid (fun o => by
              have := H8.out.hb
              rw [size_da]; omega)
            have HN5 : Hid (∀ o, B < ((W10.drew).alloc o).heap.size) := Lib.hid (fun o => by
              rw [size_da]; omega)
            have HN6 : Hid (∀ o, ((W10.drew).alloc o).heap[B]? = some (.cells #[lv2, nvi, .int .i64 z2, kv] 51 (0, 0))) := Lib.hid (fun o => (Below.heap_alloc W10.drew _ _ hBlt).trans H10.out.1)
            have HN8 : Hid (some B ≠ nvi.ownBlock) := Lib.hid (fun e => (hnn.2.1 B e.symm).1 rfl)
            have c1a : (W10.alloc (.cells #[Value.int .i64 (n : Int)] 3)).cell? ⟨B, 1, none⟩ = some nvi := (heapcell ((Below.heap_alloc W10 _ _ hBlt).trans H10.out.1) 1).1
            have HBlt2 := Lib.hid hBlt
            clear hNb hBlt hnn HN7
            go_cut [] from 65 to 78 (fun wx => ∃ nv2, Hid (BKc wx B lv2 nv2 z2 kv ∧ wx.ownsRow base 3 1 nv2 (N + 1) (((rows ++ rs.take i).map fun r => Value.int .i64 (r.2.1 : Nat)) ++ [.int .i64 (rs[i].2.1 : Nat)]) ∧ KBs (B :: nvi.ownBlock.toList) W10 wx ∧ ∀ g, nv2.ownBlock = some g → nvi.ownBlock = some g ∨ W10.heap.size ≤ g))
            case first =>
              go_region_law ((refine step_append_lies _ (by rfl) _ _ _ (by rfl) base 3 i3 (.int .i64 0) 1 8 Tryd.underlying48 HP3.out.1 HP3.out.2.1 HP3.out.2.2.1 HP3.out.2.2.2 (by rfl) (by decide) _ _ _ (by rfl) (HO8.out.alloc _) ⟨W10.heap.size, 0, none⟩ 1 1 [.int .i64 (n : Int)] (by rfl) (by rfl) (one_new _ _ _) HN1.out (by decide) HN2.out HN3.out (HN4.out _) _ rfl ?_; intro g2 cap2 w1 hown1 hgrow1 hat1 hlt1; have hq := (hgrow1.block B (HN5.out _) HN8.out).trans (HN6.out _); obtain ⟨p1, f1⟩ := heapcell hq 1))
              all_goals
                have HAD := Lib.hid (app_done hq hown1 hgrow1 hat1 HN8.out HBlt2.out 1 (.slice (some ⟨g2, 0, none⟩) (N + 1) cap2))
                clear hq hown1 hgrow1 hat1
                go_wp2_with fail
                go_meet
                refine ⟨_, Lib.hid ⟨HAD.out.1, ?_, HAD.out.2.2.1, HAD.out.2.2.2⟩⟩
                have := HAD.out.2.1
                rw [HEQ.out.2.1]; exact this
            case rest =>
              obtain ⟨nv2, H11⟩ := hcut
              clear HO8 HN1 HN2 HN3 HN4 HN5 HN6 HN8 c1a c1 fc1 y0
              go_wp2_with fail
              generalize hW11 : wc = W11 at H11 ⊢
              clear hW11
              obtain ⟨la2, lc2, rfl⟩ := own_slice H10.out.2.1
              obtain ⟨M, hM⟩ : ∃ M : Nat, M = N + 1 := ⟨_, rfl⟩
              have hMb : (M : Int) ≤ 17000001 := by have := HNb.out; omega
              have hM0 : (0 : Int) ≤ (M : Int) := by omega
              have hwm : IntKind.i64.wrap (-(M : Int)) = -(M : Int) := by exact IntWalk.i64_in _ (by omega)
              have HM := Lib.hid hM
              have h11 := H11.out.1
              have h10 := H10.out
              rw [← hM] at h11 h10
              have H11c := Lib.hid h11
              have H10c := Lib.hid h10
              have hfr := HT.out.farR HCX.out (List.getElem_mem hlt)
              rw [HEQ.out.1] at hfr
              have HFR := Lib.hid hfr
              have hg0 := HG.out
              rw [HEQ.out.1] at hg0
              have hcs := HCS.out
              rw [HEQ.out.2.1, HEQ.out.2.2] at hcs
              have hW11g : W11.heap[g]? = some (.cells cur 30 (0, 0)) := by
                have s8 := HK8.out.size
                have s10 := H10.out.2.2.1.size
                have sg := (Array.getElem?_eq_some_iff.1 hg0).1
                rw [H11.out.2.2.1.block g (by omega) (by simp [hfr.2.1]; exact hfr.2.2.2.1), H10.out.2.2.1.block g (by omega) (by simp [hfr.2.1]; exact hfr.2.2.1), HK8.out.block g sg (by simpa using hfr.2.1)]
                exact hg0
              have hLBg : LB ≠ g := by have := HF.out.1; have := hfr.1; omega
              have HLBg := Lib.hid hLBg
              have y0 : W11.cell? ⟨LB, i, none⟩ = some (.slice (some ⟨g, 0, none⟩) n cp) := by
                have s8 := HK8.out.size
                have s10 := H10.out.2.2.1.size
                have hf := HF.out
                rw [cellOf_heap (H11.out.2.2.1.block LB (by omega) (by simp [hf.2.2.1]; exact hf.2.2.2.2)), cellOf_heap (H10.out.2.2.1.block LB (by omega) (by simp [hf.2.2.1]; exact hf.2.2.2.1)), cellOf_heap (HK8.out.block LB hf.2.1 (by simpa using hf.2.2.1)), HT.out.row hlt]
                unfold rowV; rw [HEQ.out.1, HEQ.out.2.1, HEQ.out.2.2]
              have HY0 := Lib.hid y0
              have HNCP := Lib.hid hcs
              have hW11s : LB < W11.heap.size ∧ B < W11.heap.size ∧ g < W11.heap.size := ⟨World.block_lt_of_cell? _ _ y0, (Array.getElem?_eq_some_iff.1 h11).1, (Array.getElem?_eq_some_iff.1 hW11g).1⟩
              have HS11 := Lib.hid hW11s
              have HGB : Hid (g ≠ B) := Lib.hid hfr.2.1
              have hncI : (n : Int) ≤ (cp : Int) := by have := hcs.2.1; omega
              have HG11 := Lib.hid hW11g
              have hn7I : (n : Int) ≤ 70000 := by have := hcs.2.2.2; omega
              clear hM h11 h10 hfr hg0 hcs hW11g y0 hLBg hW11s
              go_loopw [7] (fun kv' wx => ∃ (k : Nat) (cur2 : Array Value), k ≤ n ∧ kv' = .int .i64 k ∧ Hid (KBs [g] W11 wx ∧ wx.heap[g]? = some (.cells cur2 30 (0, 0)) ∧ cur2.size = cp ∧ ∀ j, j < k → cur2[j]? = some (.iface 58 (.int .i64 (-(M : Int))))))
                (fun kv' _ => n - (intOf kv').toNat)
              case atStart => exact ⟨0, cur, by omega, rfl, Lib.hid ⟨KBs.refl _ _, HG11.out, HNCP.out.1, fun j h => by omega⟩⟩
              case round =>
                obtain ⟨k, cur2, hk, rfl, HMK⟩ := hrel
                have hy : wr.cell? ⟨LB, i, none⟩ = some (.slice (some ⟨g, 0, none⟩) n cp) := by
                  rw [cellOf_heap (HMK.out.1.block LB HS11.out.1 (by simpa using HLBg.out))]; exact HY0.out
                by_cases hkn : k < n
                · have hb0 : wr.cell? ⟨B, 0, none⟩ = some (.slice la2 M lc2) := by
                    rw [cellOf_heap (HMK.out.1.block B HS11.out.2.1 (by simpa using HGB.out.symm))]; exact (heapcell H11c.out 0).1
                  have hkc : k < cur2.size := by have := HMK.out.2.2.1; have := HNCP.out.2.1; omega
                  obtain ⟨gk, fk⟩ := heapcell HMK.out.2.1 k
                  rw [Array.getElem?_eq_getElem hkc] at gk
                  have hknI : (k : Int) < (n : Int) := by omega
                  generalize cur2[k] = xk at gk
                  clear hkc
                  go_wp2_with fail
                  go_still_tail 12, (by kernel_rfl)
                  go_wp2_with fail
                  go_roundw
                  case rel =>
                    refine ⟨k + 1, cur2.set! k (.iface 58 (.int .i64 (-(M : Int)))), by omega, by go_num, Lib.hid ⟨?_, heap_set HMK.out.2.1 _, by rw [Array.size_set!]; exact HMK.out.2.2.1, fun j hj => ?_⟩⟩
                    · exact HMK.out.1.trans (c := World.drew (wr.setCell ⟨g, k, none⟩ _)) (cs := [g]) ⟨rfl, rfl, rfl, by simp only [World.setCell, Array.size_modify, World.drew]; exact Nat.le_refl _, fun b _ hb => heap_set_ne _ (by simpa using hb)⟩ (fun b hb => .inl hb)
                    · by_cases hjk : j = k
                      · subst hjk
                        have : j < cur2.size := by have := HMK.out.2.2.1; have := HNCP.out.2.1; omega
                        simp [Array.set!_eq_setIfInBounds, this]
                      · have := HMK.out.2.2.2 j (by omega)
                        rw [Array.set!_eq_setIfInBounds, Array.getElem?_setIfInBounds_ne (fun e => hjk e.symm)]
                        exact this
                  case measure => simp [intOf]; omega
                · obtain rfl : k = n := by omega
                  have hknI : ¬ ((k : Int) < (k : Int)) := by omega
                  go_wp2_with fail
                  go_roundw
                  case rel =>
                    refine ⟨i + 1, .slice la2 (N + 1) lc2, nv2, z2, by omega, by go_num, Lib.hid (take_step HT.out HCX.out hlt H8.out HK8.out HBIG.out ?_ H10.out.2.2.1 H10.out.2.2.2 H11.out.1 ?_ H11.out.2.2.1 H11.out.2.2.2 ?_ ?_)⟩
                    · rw [← HNN.out]; exact H10.out.2.1
                    · rw [← HNN.out]; exact H11.out.2.1
                    · rw [HEQ.out.1]; exact HMK.out.1
                    · rw [← HNN.out]
                      refine ⟨cur2, by rw [HEQ.out.1]; exact HMK.out.2.1, by rw [HEQ.out.2.2]; exact HMK.out.2.2.1, HCS.out.2.1, HCS.out.2.2.1, HCS.out.2.2.2, fun j hj => ?_⟩
                      rw [HEQ.out.2.1] at hj
                      have := HMK.out.2.2.2 j hj
                      rw [HM.out] at this
                      rw [this]; simp
                  case measure => simp [intOf]; omega
        · obtain rfl : i = rs.length := by omega
          go_wp2_with fail
          go_end0
          have hb := HT.out.bk
          rw [List.take_length] at hb
          exact ⟨rfl, rs, lvi, nvi, zi, hb, HCX.out.rb, by have := HT.out.hz; omega, by have := HLEN.out; omega, HT.out.kb, fun g' hg' => (HT.out.nl g' hg').imp id (fun h => h.1), fun g' hg' => (HT.out.nn g' hg').imp id (fun h => h.1)⟩
end
end Go.Proofs.YtkpnnhebfaggeaaDoor
