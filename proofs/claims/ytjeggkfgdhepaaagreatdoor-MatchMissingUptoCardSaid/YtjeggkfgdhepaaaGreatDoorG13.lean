/- The reference's nodes. -/
import Derived.Test.YtjeggkfgdhepaaaGreatDoorG12
import Derived.Laws.MakeOwn
import Derived.Laws.OwnMore
set_option linter.unusedVariables false
set_option linter.unusedSimpArgs false
namespace Go.Proofs.YtjeggkfgdhepaaaGreatDoor
open Go.RowKit
open Go.Proofs
open Go.Maps
theorem wrap_small {x : Int} (h0 : 0 ≤ x) (h : x ≤ 2000000) : wrap64 x = x := by unfold wrap64; omega
theorem pcount_pos (p : Pt) : 1 ≤ p.count := by
 obtain ⟨d, s, n, a, c, l⟩ := p
 rw [Pt.count_mk]
 omega
theorem count_args (p : Pt) : p.count = 1 + (p.args.map Pt.count).sum := by
 obtain ⟨d, s, n, a, c, l⟩ := p
 rw [Pt.count_mk]
 rfl
theorem count_len : ∀ l : List Pt, l.length ≤ (l.map Pt.count).sum
 | [] => Nat.le_refl _
 | p :: l => by
  have := count_len l
  have := pcount_pos p
  simp only [List.length_cons, List.map_cons, List.sum_cons]
  omega
theorem count_succ {l : List Pt} {k : Nat} {p : Pt} (h : l[k]? = some p) : ((l.take (k + 1)).map Pt.count).sum = ((l.take k).map Pt.count).sum + p.count := by
 rw [List.take_add_one, h]
 simp
def cntL (l : List Pt) : Nat := (l.map Pt.count).sum
def cntTo (l : List Pt) (k : Nat) : Nat := cntL (l.take k)
theorem cntTo_succ {l : List Pt} {k : Nat} {p : Pt} (h : l[k]? = some p) : cntTo l (k + 1) = cntTo l k + p.count ∧ cntTo l k + p.count ≤ cntL l := ⟨count_succ h, count_take h⟩
theorem cntTo_all (l : List Pt) : cntTo l l.length = cntL l := by unfold cntTo; rw [List.take_length]
theorem cntTo_zero (l : List Pt) : cntTo l 0 = 0 := by unfold cntTo cntL; simp
set_option maxRecDepth 100000 in
set_option maxHeartbeats 4000000 in
theorem rnodes_to : ∀ (m : Nat), ∀ (l : List Pt) (A : Option Addr) (c : Nat) (w : World), cntL l ≤ m → m ≤ 1048576 → RowAt w.heap.size w 4 A (l.map Pt.cells) → (∀ p ∈ l, p.In w.heap.size w) →
  Calls Tryz.prog 79 #[.slice A l.length c] w fun e w' => e = .returned (.int .i64 (cntL l : Nat)) ∧ Below w.heap.size w w' := by
 intro m
 induction m using Nat.strongRecOn with
 | _ m ih =>
  intro l A c w hsum hm hrow hall
  have HR := Lib.hid hrow
  have HA := Lib.hid hall
  have HIH := Lib.hid ih
  have hl1 : l.length ≤ 1048576 := Nat.le_trans (count_len l) (Nat.le_trans hsum hm)
  clear hrow hall ih
  go_enter Tryz.func79, Tryz.ntmps79
  go_wp2_with fail
  go_loopw [8, 3] (fun iv nv wr => ∃ k : Nat, iv = .int .i64 k ∧ nv = .int .i64 (cntTo l k : Nat) ∧ k ≤ l.length ∧ Hid (Below w.heap.size w wr)) (fun iv _ _ => l.length - (intOf iv).toNat)
  case atStart => exact ⟨0, rfl, by rw [cntTo_zero]; rfl, Nat.zero_le _, Below.refl _ _⟩
  case round =>
   obtain ⟨k, rfl, rfl, hk, HB⟩ := hrel
   by_cases hlt : k < l.length
   ·obtain ⟨q, b0, off, hq, hmem, rfl, hb, x0, x1, x2, x3⟩ := Pt.arg_at HR.out HB.out hlt
    obtain ⟨hs1, hs2⟩ := cntTo_succ hq
    have hs3 : q.count = 1 + cntL q.args := count_args q
    have HB1 := Lib.hid (HB.out.alloc HB.out.size (.cells #[.string q.dof, .string q.name, .int .i64 q.num, .slice q.at_ q.args.length q.cap] 28))
    have hqi := HA.out q hmem
    have HPI := Lib.hid (show RowAt w.heap.size w 4 q.at_ (q.args.map Pt.cells) ∧ ∀ p ∈ q.args, p.In w.heap.size w by
     obtain ⟨qd, qs, qn, qa, qc, ql⟩ := q
     obtain ⟨-, -, -, -, -, h6, h7⟩ := Pt.In_mk.1 hqi
     exact ⟨h6, h7⟩)
    have HC := Lib.hid (fun (W : World) (hW : Below w.heap.size w W) => HIH.out (cntL q.args) (by omega) q.args q.at_ q.cap W (Nat.le_refl _) (by omega) ((HPI.out.1.keep hW).wider hW.size) (fun p hp => (HPI.out.2 p hp).next hW))
    clear hqi hq
    have HSM := Lib.hid (Nat.le_trans hsum hm)
    clear hsum hm
    obtain ⟨s, hs⟩ : ∃ s, cntTo l k = s := ⟨_, rfl⟩
    obtain ⟨r, hr⟩ : ∃ r, cntL q.args = r := ⟨_, rfl⟩
    rw [hs] at hs1 hs2 ⊢
    rw [hr] at hs3 HC
    obtain ⟨qc, hqc⟩ : ∃ qc, q.count = qc := ⟨_, rfl⟩
    rw [hqc] at hs1 hs2 hs3
    have HS1 := Lib.hid hs1
    have hbb : s + qc ≤ 1048576 := Nat.le_trans hs2 HSM.out
    clear hs2 hqc hs hr hs1
    have hw1 : wrap64 (1 + (r : Int)) = (qc : Int) := by rw [wrap_small (by omega) (by omega)]; omega
    have hw2 : wrap64 ((s : Int) + (qc : Int)) = ((s + qc : Nat) : Int) := by rw [wrap_small (by omega) (by omega)]; omega
    have HW1 := Lib.hid hw1
    have HW2 := Lib.hid hw2
    clear hs3 hbb hw1 hw2
    go_wp2_with fail
    refine Calls.mono (HC.out _ HB1.out) ?_
    rintro e w2 ⟨rfl, hb2⟩
    have HB2 := Lib.hid (HB1.out.trans (hb2.mono HB1.out.size))
    clear hb2 x0 x1 x2 x3
    go_wp2_with fail
    exact ⟨⟨k + 1, by go_num, by rw [HW1.out, HW2.out, HS1.out], by omega, HB2.out⟩, by simp [intOf]; omega⟩
   ·have hk2 : k = l.length := by omega
    subst hk2
    rw [cntTo_all]
    go_wp2_with fail
    go_ret
    exact ⟨rfl, HB.out⟩
end Go.Proofs.YtjeggkfgdhepaaaGreatDoor

namespace Go.Proofs.YtjeggkfgdhepaaaGreatDoor
open Go.RowKit
open Go.Proofs
open Go.Maps
theorem askedErr_ref {l : List Dt} {t : Ty} {ps : List Pt} (hc : (ps.map Pt.count).sum ≤ 1048576) : askedErr l t ps = if soundB l t = false ∨ 12 < ps.length then 40 else if (ps.all fun p => p.patB && p.isOf l t) = false then 40 else if 60 < (ps.map Pt.count).sum then 4 else 0 := by
 unfold askedErr
 rw [nodes_count hc]
 have hsw := sound_world l t
 by_cases h1 : soundB l t = false ∨ 12 < ps.length
 ·rw [if_pos h1, if_neg]
  intro h
  rw [Bool.and_eq_true, Bool.and_eq_true, Bool.and_eq_true, decide_eq_true_eq] at h
  rcases h1 with h1 | h1
  ·rw [hsw, h.2.1, h.2.2.1] at h1
   cases h1
  ·omega
 ·rw [if_neg h1]
  simp only [not_or, Bool.not_eq_false, Nat.not_lt] at h1
  have hs := h1.1
  rw [hsw, Bool.and_eq_true] at hs
  have hall : ps.all (fitB l t) = ps.all fun p => p.patB && p.isOf l t := by
   rw [Bool.eq_iff_iff, List.all_eq_true, List.all_eq_true]
   have key : ∀ p : Pt, fitB l t p = true ↔ (p.patB && p.isOf l t) = true := by
    intro p
    unfold fitB askB
    rw [hs.1, hs.2]
    cases hp : p.patB with
    | false => simp
    | true =>
     rw [isOf_fit (sound_tys h1.1).2.2.1 (sound_tys h1.1).2.2.2 p t (patB_well hp)]
     simp
   exact ⟨fun h p hp => (key p).1 (h p hp), fun h p hp => (key p).2 (h p hp)⟩
  rw [hall, hs.1, hs.2, decide_eq_true h1.2]
  cases ps.all fun p => p.patB && p.isOf l t with
  | false => rfl
  | true =>
   simp only [Bool.and_self, if_true, Bool.true_eq_false, if_false]
   by_cases h60 : 60 < (ps.map Pt.count).sum
   ·rw [if_pos h60, if_pos (by omega)]
   ·rw [if_neg h60, if_neg (by omega)]
set_option maxRecDepth 100000 in
set_option maxHeartbeats 4000000 in
theorem rasked_any (A : Option Addr) (l : List Dt) (c : Nat) (t : Ty) (Ap : Option Addr) (ps : List Pt) (cp : Nat) (w : World) (he : Env w) (hd : DtsIn w.heap.size w A l) (ht : t.In w.heap.size w) (hp : PtsIn w.heap.size w Ap ps) (hcnt : t.count ≤ 1048576) (hcc : ∀ d ∈ l, ∀ x ∈ d.cons, x.ty.count ≤ 1048576) (hc : (ps.map Pt.count).sum ≤ 1048576) :
  Calls Tryz.prog 40 #[.slice A l.length c, t.val, .slice Ap ps.length cp] w fun e w' => e = .returned (.int .i64 (askedErr l t ps)) ∧ Below w.heap.size w w' := by
 have HERR := Lib.hid (askedErr_ref (l := l) (t := t) hc)
 have HC1 := Lib.hid (fun (W : World) (hW : Below w.heap.size w W) => sound_any A l c t W (he.next hW) (hd.next hW) (ht.next hW) hcnt hcc)
 have HC2 := Lib.hid (fun (p : Pt) (hm : p ∈ ps) (W : World) (hW : Below w.heap.size w W) => validFlat_any p W (he.next hW) ((hp.each p hm).next hW) (hp.binds p hm))
 have HC3 := Lib.hid (fun (hs : soundB l t = true) (p : Pt) (hm : p ∈ ps) (hw : p.patB = true) (W : World) (hW : Below w.heap.size w W) => isOf_any A l c (sound_tys hs).2.1 p t W (hd.next hW) ((hp.each p hm).next hW) (patB_well hw) (ht.next hW) (sound_tys hs).1)
 have HC4 := Lib.hid (fun (W : World) (hW : Below w.heap.size w W) => rnodes_to (cntL ps) ps Ap cp W (Nat.le_refl _) hc ((hp.at_ hW hW.size).row) (fun p hm => (hp.each p hm).next hW))
 have HP := Lib.hid hp
 have hpl := hp.len
 have HB0 := Lib.hid ((Below.refl w.heap.size w).alloc (Nat.le_refl _) (.cells #[.string t.dof, .string t.name, .slice t.at_ t.args.length t.cap] 25))
 have K0 := Lib.hid (Blk.new w #[.string t.dof, .string t.name, .slice t.at_ t.args.length t.cap] 25)
 obtain ⟨er, her⟩ : ∃ er, askedErr l t ps = er := ⟨_, rfl⟩
 obtain ⟨sb, hsb⟩ : ∃ sb, soundB l t = sb := ⟨_, rfl⟩
 rw [her, hsb] at HERR
 rw [hsb] at HC1 HC3
 rw [her]
 clear he hd ht hp her hsb hc
 unfold Ty.val Pt.val at *
 go_enter Tryz.func40, Tryz.ntmps40
 go_wp2_with fail
 generalize w.alloc (.cells #[.string t.dof, .string t.name, .slice t.at_ t.args.length t.cap] 25) = w0 at HB0 K0 ⊢
 refine Calls.mono (HC1.out _ HB0.out) ?_
 rintro e w1 ⟨rfl, hb1⟩
 have HB1 := Lib.hid (HB0.out.trans (hb1.mono HB0.out.size))
 have K1 := Lib.hid (K0.out.below hb1 K0.out.lt)
 clear hb1
 cases sb
 case false =>
  have HR := Lib.hid (show er = 40 by rw [HERR.out]; simp)
  go_wp2_with fail
  go_ret
  exact ⟨by rw [HR.out]; rfl, HB1.out⟩
 by_cases h12 : 12 < ps.length
 case pos =>
  have h12' : (12 : Int) < ps.length := by omega
  have HR := Lib.hid (show er = 40 by rw [HERR.out]; simp [h12])
  go_wp2_with fail
  go_ret
  exact ⟨by rw [HR.out]; rfl, HB1.out⟩
 have h12' : ¬(12 : Int) < ps.length := by omega
 have HE2 := Lib.hid (show er = if (ps.all fun p => p.patB && p.isOf l t) = false then 40 else if 60 < (ps.map Pt.count).sum then 4 else 0 by rw [HERR.out]; simp [h12])
 have HC3' := Lib.hid (HC3.out (by simp))
 clear HERR HC3
 go_wp2_with fail
 go_loopw [20] (fun iv wr => ∃ k : Nat, iv = .int .i64 k ∧ k ≤ ps.length ∧ Hid (Below w.heap.size w wr) ∧ Hid (Blk wr w.heap.size #[.string t.dof, .string t.name, .slice t.at_ t.args.length t.cap] 25) ∧ Hid ((ps.take k).all (fun p => p.patB && p.isOf l t) = true)) (fun iv _ => ps.length - (intOf iv).toNat)
 case atStart => exact ⟨0, rfl, Nat.zero_le _, HB1.out, K1.out, Lib.hid rfl⟩
 case round =>
  obtain ⟨k, rfl, hk, HB, HK, HF⟩ := hrel
  by_cases hlt : k < ps.length
  ·obtain ⟨q, b0, off, hq, hmem, rfl, hb, x0, x1, x2, x3⟩ := Pt.arg_at HP.out.row HB.out hlt
   have HQ := Lib.hid hq
   have HBA := Lib.hid (HB.out.alloc HB.out.size (.cells #[.string q.dof, .string q.name, .int .i64 q.num, .slice q.at_ q.args.length q.cap] 28))
   have HKA := Lib.hid (HK.out.alloc (.cells #[.string q.dof, .string q.name, .int .i64 q.num, .slice q.at_ q.args.length q.cap] 28))
   have KQ := Lib.hid (Blk.new wr #[.string q.dof, .string q.name, .int .i64 q.num, .slice q.at_ q.args.length q.cap] 28)
   have HV := Lib.hid (HC2.out q hmem)
   have HO := Lib.hid (HC3'.out q hmem)
   obtain ⟨pb, hpb⟩ : ∃ pb, q.patB = pb := ⟨_, rfl⟩
   obtain ⟨ob, hob⟩ : ∃ ob, q.isOf l t = ob := ⟨_, rfl⟩
   rw [hpb] at HV HO
   rw [hob] at HO
   have HPB := Lib.hid (And.intro hpb hob)
   have HNO := Lib.hid (fun (h : (pb && ob) = false) => (show er = 40 by rw [HE2.out, all_no HQ.out (by show (q.patB && q.isOf l t) = false; rw [HPB.out.1, HPB.out.2]; exact h)]; rfl))
   clear hq hpb hob
   go_wp2_with fail
   clear x0 x1 x2 x3
   generalize wr.alloc (.cells #[.string q.dof, .string q.name, .int .i64 q.num, .slice q.at_ q.args.length q.cap] 28) = w2 at HBA HKA KQ ⊢
   refine Calls.mono (HV.out _ HBA.out) ?_
   rintro e w3 ⟨rfl, hb3⟩
   have HB3 := Lib.hid (HBA.out.trans (hb3.mono HBA.out.size))
   have HK3 := Lib.hid (HKA.out.below hb3 HKA.out.lt)
   have KQ3 := Lib.hid (KQ.out.below hb3 KQ.out.lt)
   clear hb3
   cases pb
   case false =>
    have HR := Lib.hid (HNO.out rfl)
    go_wp2_with fail
    go_ret
    exact ⟨by rw [HR.out]; rfl, HB3.out⟩
   have HO2 := Lib.hid (HO.out (by simp))
   obtain ⟨y0, y1, y2⟩ := HK3.out.three
   have yl := HK3.out.lt
   obtain ⟨z0, z1, z2, z3⟩ := KQ3.out.four
   have zl := KQ3.out.lt
   go_wp2_with fail
   refine Calls.mono (HO2.out _ HB3.out) ?_
   rintro e w4 ⟨rfl, hb4⟩
   have HB4 := Lib.hid (HB3.out.trans (hb4.mono HB3.out.size))
   have HK4 := Lib.hid (HK3.out.below hb4 HK3.out.lt)
   clear hb4 y0 y1 y2 yl z0 z1 z2 z3 zl
   cases ob
   case false =>
    have HR := Lib.hid (HNO.out rfl)
    go_wp2_with fail
    go_ret
    exact ⟨by rw [HR.out]; rfl, HB4.out⟩
   case true =>
    have HN := Lib.hid (all_take_succ HQ.out HF.out (by show (q.patB && q.isOf l t) = true; rw [HPB.out.1, HPB.out.2]; rfl))
    go_wp2_with fail
    exact ⟨⟨k + 1, by go_num, by omega, HB4.out, HK4.out, HN.out⟩, by simp [intOf]; omega⟩
  ·have hk2 : k = ps.length := by omega
   have hall := HF.out
   rw [hk2, List.take_length] at hall
   have HE3 := Lib.hid (show er = if 60 < (ps.map Pt.count).sum then 4 else 0 by rw [HE2.out, hall]; rfl)
   clear hk2 hall
   have HE4 := Lib.hid (show er = if 60 < cntL ps then 4 else 0 from HE3.out)
   obtain ⟨s, hs⟩ : ∃ s, cntL ps = s := ⟨_, rfl⟩
   rw [hs] at HE4 HC4
   clear hs
   go_wp2_with fail
   refine Calls.mono (HC4.out _ HB.out) ?_
   rintro e w5 ⟨rfl, hb5⟩
   have HB5 := Lib.hid (HB.out.trans (hb5.mono HB.out.size))
   clear hb5
   by_cases h60 : (60 : Int) < s
   ·have HR := Lib.hid (show er = 4 by rw [HE4.out, if_pos (by omega)])
    go_wp2_with fail
    go_ret
    exact ⟨by rw [HR.out]; rfl, HB5.out⟩
   ·have HR := Lib.hid (show er = 0 by rw [HE4.out, if_neg (by omega)])
    go_wp2_with fail
    go_ret
    exact ⟨by rw [HR.out]; rfl, HB5.out⟩
end Go.Proofs.YtjeggkfgdhepaaaGreatDoor

namespace Go.Proofs.YtjeggkfgdhepaaaGreatDoor
open Go.RowKit
open Go.Proofs
open Go.Maps
def someB (l : List Dt) (bs : List Bool) (s : ByteArray) : Bool := match l.findIdx? (fun d => d.name.toList == s.toList) with | some i => bs[i]?.getD true | none => true
def BoolsAt (B : Nat) (w : World) (A : Option Addr) (bs : List Bool) : Prop := RowAt B w 1 A (bs.map fun b => [.bool b])
theorem BoolsAt.cell {B : Nat} {w w' : World} {A : Option Addr} {bs : List Bool} {k : Nat} (h : BoolsAt B w A bs) (hb : Below B w w') (hk : k < bs.length) : ∃ b o x, A = some ⟨b, o, none⟩ ∧ b < B ∧ bs[k]? = some x ∧ w'.cell? ⟨b, o + k, none⟩ = some (.bool x) := by
 obtain ⟨b, o, e, hlt, hc⟩ := h (by simp; omega)
 refine ⟨b, o, bs[k], e, hlt, List.getElem?_eq_getElem hk, ?_⟩
 have := hc k [.bool bs[k]] (by rw [List.getElem?_map, List.getElem?_eq_getElem hk]; rfl) 0 _ rfl
 rw [Nat.mul_one, Nat.add_zero] at this
 exact (hb.cell (p := ⟨b, o + k, none⟩) hlt).trans this
theorem BoolsAt.next {w w' : World} {A : Option Addr} {bs : List Bool} (h : BoolsAt w.heap.size w A bs) (hb : Below w.heap.size w w') : BoolsAt w'.heap.size w' A bs := (RowAt.keep h hb).wider hb.size
theorem someB_hit {l : List Dt} {bs : List Bool} {s : ByteArray} {i : Nat} {d : Dt} {b : Bool} (hd : l[i]? = some d) (hn : (d.name.toList == s.toList) = true) (hb : bs[i]? = some b) (hno : ∀ j x, j < i → l[j]? = some x → (x.name.toList == s.toList) = false) : someB l bs s = b := by
 unfold someB
 have h : l.findIdx? (fun d => d.name.toList == s.toList) = some i := by
  rw [List.findIdx?_eq_some_iff_getElem]
  obtain ⟨hi, hx⟩ := List.getElem?_eq_some_iff.1 hd
  refine ⟨hi, by rw [hx]; exact hn, fun j hj => ?_⟩
  have := hno j _ hj (List.getElem?_eq_getElem (by omega))
  simp only [this]
  decide
 rw [h]
 simp only
 rw [hb]
 rfl
theorem someB_miss {l : List Dt} {bs : List Bool} {s : ByteArray} (hno : ∀ j x, j < l.length → l[j]? = some x → (x.name.toList == s.toList) = false) : someB l bs s = true := by
 unfold someB
 have h : l.findIdx? (fun d => d.name.toList == s.toList) = none := by
  rw [List.findIdx?_eq_none_iff]
  intro p hp
  obtain ⟨j, hj, rfl⟩ := List.getElem_of_mem hp
  exact hno j _ hj (List.getElem?_eq_getElem hj)
 rw [h]
set_option maxRecDepth 100000 in
set_option maxHeartbeats 8000000 in
theorem hasVal_any (A : Option Addr) (l : List Dt) (c : Nat) (As : Option Addr) (bs : List Bool) (cs : Nat) (hlen : bs.length = l.length) : ∀ (t : Ty) (w : World), okT l t → t.In w.heap.size w → DtsIn w.heap.size w A l → BoolsAt w.heap.size w As bs →
  Calls Tryz.prog 80 #[.slice A l.length c, .slice As bs.length cs, t.val] w fun e w' => e = .returned (.bool (hasV (someB l bs) t)) ∧ Below w.heap.size w w' := by
 refine Ty.induct fun d n At ct ts ih w ht hin hd hs => ?_
 have hmk := hasV_mk (someB l bs) d n At ct ts
 obtain ⟨hdd, hnn, hl, -, hrow, hall⟩ := Ty.In_mk.1 hin
 have HD := Lib.hid hd
 have HS := Lib.hid hs
 have hdl := hd.len
 have HLEN := Lib.hid hlen
 have hbl : bs.length ≤ 1048576 := by omega
 clear hlen
 have HB0 := Lib.hid ((Below.refl w.heap.size w).alloc (Nat.le_refl _) (.cells #[.string d, .string n, .slice At ts.length ct] 25))
 have HK := Lib.hid (Blk.new w #[.string d, .string n, .slice At ts.length ct] 25)
 obtain ⟨tp, hp⟩ : ∃ x, (d.toList == [112, 97, 105, 114]) = x := ⟨_, rfl⟩
 obtain ⟨td, hdt⟩ : ∃ x, (d.toList == [100, 97, 116, 97]) = x := ⟨_, rfl⟩
 unfold isDo at hmk
 rw [hp, hdt] at hmk
 cases tp
 case true =>
  obtain ⟨t0, t1, hargs⟩ := pair_args ht (show isDo [112, 97, 105, 114] d = true from hp)
  have hok := okT_args ht
  simp only [Ty.args] at hargs hok
  subst hargs
  obtain ⟨b1, o1, rfl, hb1, htc⟩ := two_tys hrow
  simp only [if_true, List.all_cons, List.all_nil, Bool.and_true] at hmk
  have HMK := Lib.hid hmk
  have HC0 := Lib.hid (fun (W : World) (hW : Below w.heap.size w W) => ih t0 (by simp) W (hok t0 (by simp)) ((hall t0 (by simp)).next hW) (HD.out.next hW) (HS.out.next hW))
  have HC1 := Lib.hid (fun (W : World) (hW : Below w.heap.size w W) => ih t1 (by simp) W (hok t1 (by simp)) ((hall t1 (by simp)).next hW) (HD.out.next hW) (HS.out.next hW))
  have HTC := Lib.hid htc
  clear hmk hin hd hs hrow hall htc hok ih ht
  generalize hasV (someB l bs) (.mk d n (some ⟨b1, o1, none⟩) ct [t0, t1]) = res at HMK ⊢
  generalize hasV (someB l bs) t0 = r0 at HMK HC0
  generalize hasV (someB l bs) t1 = r1 at HMK HC1
  obtain ⟨y0, y1, y2, y3, y4, y5⟩ := HTC.out _ HB0.out
  have hb1' : b1 < (w.alloc (.cells #[.string d, .string n, .slice (some ⟨b1, o1, none⟩) 2 ct] 25)).heap.size := by simp; omega
  unfold Ty.val at *
  simp only [List.length_cons, List.length_nil, Nat.zero_add, Nat.reduceAdd] at HB0 HK y0 y1 y2 y3 y4 y5 hb1' hl
  simp only [Ty.dof, Ty.name, Ty.at_, Ty.cap, Ty.args, List.length_cons, List.length_nil, Nat.zero_add, Nat.reduceAdd]
  go_enter Tryz.func80, Tryz.ntmps80
  go_wp2_with fail
  clear y0 y1 y2 y3 y4 y5 hb1'
  generalize w.alloc (.cells #[.string d, .string n, .slice (some ⟨b1, o1, none⟩) 2 ct] 25) = w0 at HB0 HK ⊢
  refine Calls.mono (HC0.out _ HB0.out) ?_
  rintro e w1 ⟨rfl, hb1w⟩
  have HB1 := Lib.hid (HB0.out.trans (hb1w.mono HB0.out.size))
  have HK1 := Lib.hid (HK.out.below hb1w HK.out.lt)
  clear hb1w
  cases r0
  case false =>
   go_wp2_with fail
   go_ret
   exact ⟨by rw [HMK.out]; rfl, HB1.out⟩
  obtain ⟨x0, x1, x2⟩ := HK1.out.three
  have xl := HK1.out.lt
  obtain ⟨y0, y1, y2, y3, y4, y5⟩ := HTC.out _ HB1.out
  have hb2' : b1 < w1.heap.size := by have := HB1.out.size; omega
  go_wp2_with fail
  refine Calls.mono (HC1.out _ HB1.out) ?_
  rintro e w2 ⟨rfl, hb2⟩
  have HB2 := Lib.hid (HB1.out.trans (hb2.mono HB1.out.size))
  clear hb2 y0 y1 y2 y3 y4 y5 hb2' x0 x1 x2 xl
  go_wp2_with fail
  go_ret
  exact ⟨by rw [HMK.out]; simp, HB2.out⟩
 simp only [Bool.false_eq_true, if_false] at hmk
 cases td
 case false =>
  simp only [Bool.false_eq_true, if_false] at hmk
  rw [hmk]
  clear hmk hin hd hs hrow hall ih ht
  unfold Ty.val
  simp only [Ty.dof, Ty.name, Ty.at_, Ty.cap, Ty.args]
  go_enter Tryz.func80, Tryz.ntmps80
  go_wp2_with fail
  go_ret
  exact ⟨rfl, HB0.out⟩
 case true =>
  simp only [if_true] at hmk
  have HMK := Lib.hid hmk
  clear hin hd hs hrow hall ih ht
  generalize hasV (someB l bs) (.mk d n At ct ts) = res at HMK hmk ⊢
  clear hmk
  unfold Ty.val
  simp only [Ty.dof, Ty.name, Ty.at_, Ty.cap, Ty.args]
  go_enter Tryz.func80, Tryz.ntmps80
  go_wp2_with fail
  generalize w.alloc (.cells #[.string d, .string n, .slice At ts.length ct] 25) = w0 at HB0 HK ⊢
  go_loopw [33] (fun iv wr => ∃ k : Nat, iv = .int .i64 k ∧ k ≤ l.length ∧ Hid (Below w.heap.size w wr) ∧ Hid (Blk wr w.heap.size #[.string d, .string n, .slice At ts.length ct] 25) ∧ Hid (∀ j x, j < k → l[j]? = some x → (x.name.toList == n.toList) = false)) (fun iv _ => l.length - (intOf iv).toNat)
  case atStart => exact ⟨0, rfl, Nat.zero_le _, HB0.out, HK.out, Lib.hid fun j x hj => absurd hj (Nat.not_lt_zero _)⟩
  case round =>
   obtain ⟨k, rfl, hk, HB, HK1, HN⟩ := hrel
   by_cases hlt : k < l.length
   ·obtain ⟨q, b, off, hq, hmem, rfl, hb, x0, x1⟩ := Dt.arg_at HD.out.row HB.out hlt
    have HQ := Lib.hid hq
    have hqn := (HD.out.each q hmem).1
    have hbb2 := HB.out.size
    have hkb : k < bs.length := by have := HLEN.out; omega
    obtain ⟨y0, y1, y2⟩ := HK1.out.three
    have yl := HK1.out.lt
    have HBA := Lib.hid (HB.out.alloc HB.out.size (.cells #[.string q.name, .slice q.at_ q.cons.length q.cap] 111))
    have HKA := Lib.hid (HK1.out.alloc (.cells #[.string q.name, .slice q.at_ q.cons.length q.cap] 111))
    obtain ⟨bb, ob, xb, rfl, hbb, hxb, c0⟩ := HS.out.cell HBA.out (k := k) (by have := HLEN.out; omega)
    have HXB := Lib.hid hxb
    clear hq hxb
    obtain ⟨tn, htn⟩ : ∃ x, (q.name.toList == n.toList) = x := ⟨_, rfl⟩
    have HTN := Lib.hid htn
    cases tn
    case true =>
     have HR := Lib.hid (show res = xb by rw [HMK.out]; exact someB_hit HQ.out HTN.out HXB.out HN.out)
     go_wp2_with fail
     go_ret
     exact ⟨by rw [HR.out]; rfl, HBA.out⟩
    case false =>
     go_wp2_with fail
     exact ⟨⟨k + 1, by go_num, by omega, HBA.out, HKA.out, Lib.hid (fun j x hj hx => by
      by_cases hjk : j < k
      ·exact HN.out j x hjk hx
      ·have : j = k := by omega
       subst this
       rw [HQ.out] at hx
       cases hx
       exact HTN.out)⟩, by simp [intOf]; omega⟩
   ·have hk2 : k = l.length := by omega
    have hn := HN.out
    rw [hk2] at hn
    have HR := Lib.hid (show res = true by rw [HMK.out]; exact someB_miss (fun j x hj hx => hn j x hj hx))
    clear hn hk2
    go_wp2_with fail
    go_ret
    exact ⟨by rw [HR.out]; rfl, HB.out⟩
end Go.Proofs.YtjeggkfgdhepaaaGreatDoor

namespace Go.Proofs.YtjeggkfgdhepaaaGreatDoor
open Go.RowKit
open Go.Proofs
open Go.Maps
def bArr (bs : List Bool) : Array Value := (bs.map Value.bool).toArray
theorem bArr_set (bs : List Bool) (i : Nat) (b : Bool) : (bArr bs).setIfInBounds i (.bool b) = bArr (bs.set i b) := by
 unfold bArr
 rw [List.setIfInBounds_toArray, ← List.map_set]
theorem bArr_get {bs : List Bool} {i : Nat} {b : Bool} (h : bs[i]? = some b) : (bArr bs)[i]? = some (.bool b) := by
 unfold bArr
 rw [List.getElem?_toArray, List.getElem?_map, h]
 rfl
theorem bools_blk {W : World} {g : Nat} {bs : List Bool} {T : TypeId} (h : Blk W g (bArr bs) T) : BoolsAt W.heap.size W (some ⟨g, 0, none⟩) bs := by
 intro _
 refine ⟨g, 0, rfl, h.lt, fun i x hi j v hj => ?_⟩
 rw [List.getElem?_map] at hi
 obtain ⟨b, hb, rfl⟩ := Option.map_eq_some_iff.1 hi
 rcases j with _ | j
 ·simp only [List.getElem?_cons_zero, Option.some.injEq] at hj
  subst hj
  rw [Nat.mul_one, Nat.zero_add, Nat.add_zero, h.cell, bArr_get hb]
 ·simp at hj
theorem infoBool : (Tryz.prog.info? 4).map (fun i => (i.zero, i.size, i.bytes)) = some (some (.bool false), 1, 1) := by kernel_rfl
theorem made_bools (n : Nat) : madeCells (Value.cells (.bool false)) n = bArr (List.replicate n false) := by
 have h : (madeCells #[.bool false] n).toList = (bArr (List.replicate n false)).toList := by
  rw [toList_madeCells_one]
  unfold bArr
  simp
 exact Array.toList_inj.1 h
structure Gr (bs0 bs : List Bool) : Prop where
 len : bs.length = bs0.length
 le : ∀ i : Nat, bs0[i]? = some true → bs[i]? = some true
def RealB (l : List Dt) (bs : List Bool) : Prop := ∀ (i : Nat) (d : Dt), l[i]? = some d → bs[i]? = some true → ∃ c ∈ d.cons, c.has = false ∨ ∃ v, Val l c.ty v
def ClosedTo (l : List Dt) (bs : List Bool) (i j : Nat) : Prop := ∀ (i' : Nat) (d : Dt), l[i']? = some d → ∀ (j' : Nat) (c : Cn), d.cons[j']? = some c → (i' < i ∨ (i' = i ∧ j' < j)) → conHas (someB l bs) c = true → bs[i']? = some true
def StableB (l : List Dt) (bs : List Bool) : Prop := ClosedTo l bs l.length 0
structure InR (l : List Dt) (bs0 bs : List Bool) (i j : Nat) : Prop where
 gr : Gr bs0 bs
 stay : StableB l bs0 → bs = bs0
 closed : bs = bs0 → ClosedTo l bs0 i j
 real : RealB l bs
 len : bs.length = l.length
theorem someB_at {l : List Dt} (hr : Right l) {bs : List Bool} {i : Nat} {d : Dt} {b : Bool} (hd : l[i]? = some d) (hb : bs[i]? = some b) : someB l bs d.name = b := by
 refine someB_hit hd (by simp) hb fun j x hj hx => ?_
 cases h : (x.name.toList == d.name.toList) with
 | false => rfl
 | true =>
  have hn : x.name = d.name := bytes_of (by simpa using h)
  have hnd : (l.map Dt.name).Nodup := by have := hr.names; unfold distinctB at this; simpa using this
  have h1 : (l.map Dt.name)[j]? = some d.name := by rw [List.getElem?_map, hx, Option.map_some, hn]
  have h2 : (l.map Dt.name)[i]? = some d.name := by rw [List.getElem?_map, hd]; rfl
  have hji := (List.getElem?_inj (List.getElem?_eq_some_iff.1 h1).1 hnd).1 (h1.trans h2.symm)
  omega
theorem realB_S {l : List Dt} (hr : Right l) {bs : List Bool} (hlen : bs.length = l.length) (h : RealB l bs) : ∀ d ∈ l, someB l bs d.name = true → ∃ c ∈ d.cons, c.has = false ∨ ∃ v, Val l c.ty v := by
 intro d hd hs
 obtain ⟨i, hi⟩ := List.getElem?_of_mem hd
 have hlt := (List.getElem?_eq_some_iff.1 hi).1
 have hb : bs[i]? = some bs[i] := List.getElem?_eq_getElem (by omega)
 rw [someB_at hr hi hb] at hs
 exact h i d hi (by rw [hb, hs])
theorem inR_step {l : List Dt} (hr : Right l) {bs0 bs : List Bool} {i j : Nat} (h : InR l bs0 bs i j) {d : Dt} {c : Cn} {b : Bool} (hd : l[i]? = some d) (hc : d.cons[j]? = some c) (hb : bs[i]? = some b) : InR l bs0 (bs.set i (b || conHas (someB l bs) c)) i (j + 1) := by
 have hi := (List.getElem?_eq_some_iff.1 hb).1
 have hset : ∀ x : Bool, (bs.set i x)[i]? = some x := fun x => by rw [List.getElem?_set_self hi]
 have hoth : ∀ (x : Bool) (k : Nat), k ≠ i → (bs.set i x)[k]? = bs[k]? := fun x k hk => by rw [List.getElem?_set_ne (Ne.symm hk)]
 have hsame : b = true ∨ conHas (someB l bs) c = false → bs.set i (b || conHas (someB l bs) c) = bs := by
  intro hh
  have e : (b || conHas (someB l bs) c) = b := by
   rcases hh with h | h
   ·rw [h]; rfl
   ·rw [h, Bool.or_false]
  rw [e]
  refine List.ext_getElem? fun k => ?_
  by_cases hk : k = i
  ·subst hk; rw [hset, hb]
  ·exact hoth _ _ hk
 have hreal : RealB l (bs.set i (b || conHas (someB l bs) c)) := by
  intro k e he hk
  by_cases hki : k = i
  ·subst hki
   rw [hd] at he
   cases he
   rw [hset] at hk
   simp only [Option.some.injEq, Bool.or_eq_true] at hk
   rcases hk with hk | hk
   ·exact h.real k d hd (by rw [hb, hk])
   ·refine ⟨c, List.mem_of_getElem? hc, ?_⟩
    unfold conHas at hk
    cases hh : c.has with
    | false => exact .inl rfl
    | true =>
     rw [hh] at hk
     simp only [Bool.not_true, Bool.false_or] at hk
     have hok := ((hr.cons d (List.mem_of_getElem? hd)).2 c (List.mem_of_getElem? hc)).2 hh
     exact .inr (hasV_real hr (realB_S hr h.len h.real) c.ty hok hk)
  ·rw [hoth _ _ hki] at hk
   exact h.real k e he hk
 by_cases hch : b = true ∨ conHas (someB l bs) c = false
 ·rw [hsame hch]
  refine ⟨h.gr, h.stay, fun he => ?_, h.real, h.len⟩
  intro i' d' hd' j' c' hc' hij hcon
  by_cases hlast : i' = i ∧ j' = j
  ·obtain ⟨rfl, rfl⟩ := hlast
   rw [hd] at hd'
   cases hd'
   rw [hc] at hc'
   cases hc'
   rcases hch with hch | hch
   ·rw [← he, hb, hch]
   ·rw [← he, hch] at hcon; cases hcon
  ·exact h.closed he i' d' hd' j' c' hc' (by omega) hcon
 ·simp only [not_or, Bool.not_eq_true, Bool.not_eq_false] at hch
  obtain ⟨hb0, hc1⟩ := hch
  subst hb0
  have hnew : ∀ k : Nat, bs[k]? = some true → (bs.set i (false || conHas (someB l bs) c))[k]? = some true := fun k hk => by
   by_cases hki : k = i
   ·subst hki; rw [hset, hc1]; rfl
   ·rw [hoth _ _ hki]; exact hk
  have hne : bs.set i (false || conHas (someB l bs) c) ≠ bs0 := by
   intro he
   have h1 := hset (false || conHas (someB l bs) c)
   rw [he, hc1] at h1
   have := h.gr.le i h1
   rw [hb] at this
   cases this
  refine ⟨⟨by rw [List.length_set]; exact h.gr.len, fun k hk => hnew k (h.gr.le k hk)⟩, fun hst => ?_, fun he => absurd he hne, hreal, by rw [List.length_set]; exact h.len⟩
  exfalso
  have he := h.stay hst
  have h1 := hst i d hd j c hc (.inl (List.getElem?_eq_some_iff.1 hd).1) (by rw [← he]; exact hc1)
  rw [← he, hb] at h1
  cases h1
theorem count_le (bs0 bs : List Bool) (h : Gr bs0 bs) (hne : bs ≠ bs0) : bs0.count true + 1 ≤ bs.count true := by
 induction bs0 generalizing bs with
 | nil =>
  have := h.len
  simp only [List.length_nil] at this
  exact absurd (List.eq_nil_of_length_eq_zero this) hne
 | cons a bs0 ih =>
  cases bs with
  | nil => have := h.len; simp at this
  | cons b bs =>
   have hg : Gr bs0 bs := ⟨by have := h.len; simpa using this, fun i hi => by have := h.le (i + 1) (by simpa using hi); simpa using this⟩
   have h0 := h.le 0
   simp only [List.getElem?_cons_zero, Option.some.injEq] at h0
   by_cases hs : bs = bs0
   ·subst hs
    cases a with
    | true => rw [h0 rfl] at hne; exact absurd rfl hne
    | false =>
     cases b with
     | true => simp
     | false => exact absurd rfl hne
   ·have := ih bs hg hs
    cases a with
    | true => rw [h0 rfl]; simp; omega
    | false => cases b <;> simp <;> omega
theorem all_true {bs : List Bool} (h : bs.length ≤ bs.count true) : ∀ b ∈ bs, b = true := by
 have h1 : bs.count true = bs.length := by have := List.count_le_length (a := true) (l := bs); omega
 intro b hb
 exact (List.count_eq_length.1 h1 b hb).symm
theorem inh_end {l : List Dt} (hr : Right l) {bs : List Bool} (hlen : bs.length = l.length) (hreal : RealB l bs) (h : StableB l bs ∨ l.length ≤ bs.count true) : Inh l (someB l bs) := by
 refine ⟨realB_S hr hlen hreal, fun d hd c hc hcon => ?_⟩
 obtain ⟨i, hi⟩ := List.getElem?_of_mem hd
 have hlt := (List.getElem?_eq_some_iff.1 hi).1
 have hb : bs[i]? = some bs[i] := List.getElem?_eq_getElem (by omega)
 rw [someB_at hr hi hb]
 rcases h with h | h
 ·obtain ⟨j, hj⟩ := List.getElem?_of_mem hc
  have := h i d hi j c hj (.inl hlt) hcon
  rw [hb] at this
  simpa using this
 ·exact all_true (by omega) _ (List.getElem_mem _)
theorem inR_start {l : List Dt} {bs : List Bool} (hreal : RealB l bs) (hlen : bs.length = l.length) : InR l bs bs 0 0 := ⟨⟨rfl, fun _ h => h⟩, fun _ => rfl, fun _ i' d _ j' c _ hij => by omega, hreal, hlen⟩
theorem inR_next {l : List Dt} {bs0 bs : List Bool} {i : Nat} {d : Dt} (h : InR l bs0 bs i d.cons.length) (hd : l[i]? = some d) : InR l bs0 bs (i + 1) 0 :=
 ⟨h.gr, h.stay, fun he i' d' hd' j' c' hc' hij hcon => by
  refine h.closed he i' d' hd' j' c' hc' ?_ hcon
  by_cases hi : i' = i
  ·subst hi
   rw [hd] at hd'
   cases hd'
   have := (List.getElem?_eq_some_iff.1 hc').1
   omega
  ·omega, h.real, h.len⟩
theorem round_end {l : List Dt} {bs0 bs : List Bool} {r : Nat} (h : InR l bs0 bs l.length 0) (h0 : StableB l bs0 ∨ r ≤ bs0.count true) : StableB l bs ∨ r + 1 ≤ bs.count true := by
 by_cases he : bs = bs0
 ·rw [he]
  exact .inl (h.closed he)
 ·rcases h0 with h0 | h0
  ·exact absurd (h.stay h0) he
  ·have := count_le bs0 bs h.gr he
   exact .inr (by omega)
structure InhAt (l : List Dt) (w : World) (g : Nat) (bs : List Bool) (W : World) : Prop where
 bel : Below w.heap.size w W
 ge : w.heap.size ≤ g
 blk : Blk W g (bArr bs) 4
 len : bs.length = l.length
theorem InhAt.next {l : List Dt} {w W W1 : World} {g : Nat} {bs : List Bool} (h : InhAt l w g bs W) (hb : Below W.heap.size W W1) : InhAt l w g bs W1 := ⟨h.bel.trans (hb.mono h.bel.size), h.ge, h.blk.below hb h.blk.lt, h.len⟩
theorem InhAt.set {l : List Dt} {w W : World} {g : Nat} {bs : List Bool} (h : InhAt l w g bs W) (i : Nat) (b : Bool) : InhAt l w g (bs.set i b) (W.setCell ⟨g, i, none⟩ (.bool b)) :=
 ⟨h.bel.setCell h.ge _, h.ge, (h.blk.set i (.bool b)).cast (bArr_set bs i b), by rw [List.length_set]; exact h.len⟩
def InhPost (l : List Dt) (w : World) (e : Ending) (w' : World) : Prop := Below w.heap.size w w' ∧ ∃ (g : Nat) (bs : List Bool), e = .returned (.slice (some ⟨g, 0, none⟩) bs.length bs.length) ∧ bs.length = l.length ∧ BoolsAt w'.heap.size w' (some ⟨g, 0, none⟩) bs ∧ Inh l (someB l bs)
end Go.Proofs.YtjeggkfgdhepaaaGreatDoor

namespace Go.Proofs.YtjeggkfgdhepaaaGreatDoor
open Go.RowKit
open Go.Proofs
open Go.Maps
set_option maxRecDepth 100000 in
set_option maxHeartbeats 8000000 in
theorem inhabited_any (A : Option Addr) (l : List Dt) (c : Nat) (w : World) (hr : Right l) (hd : DtsIn w.heap.size w A l) (hdl : ∀ d ∈ l, d.cons.length ≤ 1048576) :
  Calls Tryz.prog 41 #[.slice A l.length c] w (InhPost l w) := by
 have HR := Lib.hid hr
 have HD := Lib.hid hd
 have HDL := Lib.hid hdl
 have hl := hd.len
 obtain ⟨i0, hi, hz0, hz1, hz2⟩ := info_parts infoBool
 have hmk := run_makeSlice (P := Tryz.prog) w 76 4 i0 (.bool false) Tryz.underlying76 hi hz0 .i64 .i64 (l.length : Int) (l.length : Int) (by omega) (Int.le_refl _) (by rw [hz1]; simp; omega) (by rw [hz2]; omega) (by omega)
 rw [hz1, made_bools] at hmk
 simp only [Int.toNat_natCast, Nat.mul_one] at hmk
 have H0 := Lib.hid (show InhAt l w w.heap.size (List.replicate l.length false) (w.alloc (.cells (bArr (List.replicate l.length false)) 4)) from ⟨(Below.refl _ _).alloc (Nat.le_refl _) _, Nat.le_refl _, Blk.new w _ _, by simp⟩)
 have HQ0 := Lib.hid (show RealB l (List.replicate l.length false) from fun i d _ hb => by
  rw [List.getElem?_replicate] at hb
  split at hb <;> cases hb)
 clear hr hd hdl hi hz0 hz1 hz2
 unfold InhPost
 go_enter Tryz.func41, Tryz.ntmps41
 go_wp2_with fail
 clear hmk
 generalize List.replicate l.length false = bz at H0 HQ0 ⊢
 generalize w.alloc (.cells (bArr bz) 4) = w0 at H0 ⊢
 generalize hg : w.heap.size = g at H0 ⊢
 have HG := Lib.hid hg
 clear hg
 go_loopw [13] (fun iv wr => ∃ (r : Nat) (bs : List Bool), iv = .int .i64 r ∧ r ≤ l.length ∧ Hid (InhAt l w g bs wr) ∧ Hid (RealB l bs) ∧ Hid (StableB l bs ∨ r ≤ bs.count true)) (fun iv _ => l.length - (intOf iv).toNat)
 case atStart => exact ⟨0, bz, rfl, Nat.zero_le _, H0.out, HQ0.out, Lib.hid (.inr (Nat.zero_le _))⟩
 case round =>
  obtain ⟨r, bs0, rfl, hr, HI0, HQ, HS⟩ := hrel
  by_cases hlt : r < l.length
  ·obtain ⟨wo, rfl⟩ : ∃ wo : World, wo = wr := ⟨_, rfl⟩
   go_wp2_with fail
   go_loopw [17] (fun iv wr => ∃ (i : Nat) (bs : List Bool), iv = .int .i64 i ∧ i ≤ l.length ∧ Hid (InhAt l w g bs wr) ∧ Hid (InR l bs0 bs i 0)) (fun iv _ => l.length - (intOf iv).toNat)
   case atStart => exact ⟨0, bs0, rfl, Nat.zero_le _, HI0.out, Lib.hid (inR_start HQ.out HI0.out.len)⟩
   case round =>
    obtain ⟨i, bs1, rfl, hi, HI1, HR1⟩ := hrel
    by_cases hlt1 : i < l.length
    ·obtain ⟨q, b, off, hq, hmem, rfl, hb, x0, x1⟩ := Dt.arg_at HD.out.row HI1.out.bel hlt1
     have HQ1 := Lib.hid hq
     have HQM := Lib.hid hmem
     have hql := HDL.out q hmem
     obtain ⟨wm, rfl⟩ : ∃ wm : World, wm = wr := ⟨_, rfl⟩
     have HI2 := Lib.hid (HI1.out.next ((Below.refl wm.heap.size wm).alloc (Nat.le_refl _) (.cells #[.string q.name, .slice q.at_ q.cons.length q.cap] 111)))
     clear hq hmem
     go_wp2_with fail
     clear x0 x1
     generalize wm.alloc (.cells #[.string q.name, .slice q.at_ q.cons.length q.cap] 111) = w2 at HI2 ⊢
     go_loopw [25] (fun iv wr => ∃ (j : Nat) (bs : List Bool), iv = .int .i64 j ∧ j ≤ q.cons.length ∧ Hid (InhAt l w g bs wr) ∧ Hid (InR l bs0 bs i j)) (fun iv _ => q.cons.length - (intOf iv).toNat)
     case atStart => exact ⟨0, bs1, rfl, Nat.zero_le _, HI2.out, HR1.out⟩
     case round =>
      obtain ⟨j, bs, rfl, hj, HI3, HR3⟩ := hrel
      by_cases hlt2 : j < q.cons.length
      ·obtain ⟨x, b5, off5, hq5, hm5, hat5, hb5, z0, z1, z2, z3, z4⟩ := Cn.arg_at (HD.out.each q HQM.out).2.2.2.1 HI3.out.bel hlt2
       have HQ5 := Lib.hid hq5
       rw [hat5]
       have HXI := Lib.hid ((HD.out.each q HQM.out).2.2.2.2 x hm5)
       have HOK := Lib.hid (fun (hh : x.has = true) => ((HR.out.cons q HQM.out).2 x hm5).2 hh)
       obtain ⟨bv, hbv⟩ : ∃ bv, bs[i]? = some bv := ⟨_, List.getElem?_eq_getElem (by have := HI3.out.len; omega)⟩
       have HBV := Lib.hid hbv
       have hcell : wr.cell? ⟨g, i, none⟩ = some (.bool bv) := (HI3.out.blk.cell i).trans (bArr_get hbv)
       have hfree := HI3.out.blk.free i
       have hglt := HI3.out.blk.lt
       have HSTEP := Lib.hid (inR_step HR.out HR3.out HQ1.out HQ5.out hbv)
       have HI4 := Lib.hid (HI3.out.next ((Below.refl wr.heap.size wr).alloc (Nat.le_refl _) (.cells #[.string x.name, .bool x.has, .string x.ty.dof, .string x.ty.name, .slice x.ty.at_ x.ty.args.length x.ty.cap] 117)))
       have KX := Lib.hid (Blk.new wr #[.string x.name, .bool x.has, .string x.ty.dof, .string x.ty.name, .slice x.ty.at_ x.ty.args.length x.ty.cap] 117)
       have hcell4 : (wr.alloc (.cells #[.string x.name, .bool x.has, .string x.ty.dof, .string x.ty.name, .slice x.ty.at_ x.ty.args.length x.ty.cap] 117)).cell? ⟨g, i, none⟩ = some (.bool bv) := (HI4.out.blk.cell i).trans (bArr_get hbv)
       have hfree4 := HI4.out.blk.free i
       have HCALL := Lib.hid (fun (hh : x.has = true) (W : World) (hW : InhAt l w g bs W) => (by
        have h := hasVal_any (some ⟨b, off, none⟩) l c (some ⟨g, 0, none⟩) bs bs.length hW.len x.ty W (HOK.out hh) (HXI.out.2.at_ hW.bel hW.bel.size) (HD.out.next hW.bel) (bools_blk hW.blk)
        rw [hW.len] at h
        exact h : Calls Tryz.prog 80 #[.slice (some ⟨b, off, none⟩) l.length c, .slice (some ⟨g, 0, none⟩) l.length l.length, x.ty.val] W fun e w' => e = .returned (.bool (hasV (someB l bs) x.ty)) ∧ Below W.heap.size W w'))
       unfold conHas at HSTEP
       unfold Ty.val at HCALL
       clear hq5 hm5 hbv
       cases bv
       case true =>
        have HSX := Lib.hid (show InR l bs0 (bs.set i true) i (j + 1) by simpa using HSTEP.out)
        have HI5 := Lib.hid (HI4.out.set i true)
        have HI5a := Lib.hid ((HI3.out.set i true).next ((Below.refl _ _).alloc (Nat.le_refl _) (.cells #[.string x.name, .bool x.has, .string x.ty.dof, .string x.ty.name, .slice x.ty.at_ x.ty.args.length x.ty.cap] 117)))
        go_wp2_with fail
        refine ⟨⟨j + 1, bs.set i true, by go_num, by omega, ?_, HSX.out⟩, by simp [intOf]; omega⟩
        first | exact HI5.out | exact HI5a.out
       case false =>
        obtain ⟨hh, hhs⟩ : ∃ y, x.has = y := ⟨_, rfl⟩
        rw [hhs] at z1 HI4 HSTEP KX hcell4 hfree4
        cases hh
        case false =>
         have HSX := Lib.hid (show InR l bs0 (bs.set i true) i (j + 1) by simpa using HSTEP.out)
         have HI5 := Lib.hid (HI4.out.set i true)
         have HI5a := Lib.hid ((HI3.out.set i true).next ((Below.refl _ _).alloc (Nat.le_refl _) (.cells #[.string x.name, .bool false, .string x.ty.dof, .string x.ty.name, .slice x.ty.at_ x.ty.args.length x.ty.cap] 117)))
         go_wp2_with fail
         refine ⟨⟨j + 1, bs.set i true, by go_num, by omega, ?_, HSX.out⟩, by simp [intOf]; omega⟩
         first | exact HI5.out | exact HI5a.out
        case true =>
         have HC2 := Lib.hid (HCALL.out hhs)
         generalize hasV (someB l bs) x.ty = rv at HC2 HSTEP
         have HSX := Lib.hid (show InR l bs0 (bs.set i rv) i (j + 1) by simpa using HSTEP.out)
         go_wp2_with fail
         refine Calls.mono (HC2.out _ HI4.out) ?_
         rintro e w6 ⟨rfl, hb6⟩
         have HI6 := Lib.hid (HI4.out.next hb6)
         have HI7 := Lib.hid (HI6.out.set i rv)
         have hcell6 : w6.cell? ⟨g, i, none⟩ = some (.bool false) := (HI6.out.blk.cell i).trans (bArr_get HBV.out)
         have hfree6 := HI6.out.blk.free i
         have hglt6 := HI6.out.blk.lt
         clear hb6 z0 z1 z2 z3 z4 hcell hfree hglt hcell4 hfree4
         go_wp2_with fail
         exact ⟨⟨j + 1, bs.set i rv, by go_num, by omega, HI7.out, HSX.out⟩, by simp [intOf]; omega⟩
      ·have hj2 : j = q.cons.length := by omega
       subst hj2
       have HNX := Lib.hid (inR_next HR3.out HQ1.out)
       go_wp2_with fail
       exact ⟨⟨i + 1, bs, by go_num, by omega, HI3.out, HNX.out⟩, by simp [intOf]; omega⟩
    ·have hi2 : i = l.length := by omega
     subst hi2
     have HNX := Lib.hid (round_end HR1.out HS.out)
     have HRE := Lib.hid HR1.out.real
     go_wp2_with fail
     exact ⟨⟨r + 1, bs1, by go_num, by omega, HI1.out, HRE.out, HNX.out⟩, by simp [intOf]; omega⟩
  ·have hr2 : r = l.length := by omega
   subst hr2
   have HEND := Lib.hid (inh_end HR.out HI0.out.len HQ.out HS.out)
   have hlen := HI0.out.len
   go_wp2_with fail
   exact bodyPost_ret (v := .slice (some ⟨g, 0, none⟩) l.length l.length) (by simp [results, Tryz.results41, go_sem]) rfl ⟨HI0.out.bel, g, bs0, by rw [HI0.out.len], HI0.out.len, bools_blk HI0.out.blk, HEND.out⟩
end Go.Proofs.YtjeggkfgdhepaaaGreatDoor

namespace Go.Proofs.YtjeggkfgdhepaaaGreatDoor
open Go.RowKit
open Go.Proofs
open Go.Maps
set_option maxRecDepth 100000 in
set_option maxHeartbeats 8000000 in
theorem under_any (h : Pt) (f : Form) (hf : Head h f) (hn : h.args.length = f.types.length) (h2 : f.types.length ≤ 2) (b o c : Nat) (p : Pt) (ps : List Pt) (w : World) (hrow : Rw.In w.heap.size w ⟨some ⟨b, o, none⟩, c, p :: ps⟩) (hlen : p.args.length + ps.length ≤ 999990) :
  Calls Tryz.prog 82 #[.slice (some ⟨b, o, none⟩) (ps.length + 1) c, h.val] w (OpenPost w (opened f (p :: ps))) := by
 have HTAIL := Lib.hid (tail_in hrow)
 have HP := Lib.hid (hrow.2.1 p (by simp))
 have hcle : ps.length + 1 ≤ c := by have := hrow.2.2.1; simpa using this
 have hc : c ≤ 9223372036854775807 := hrow.2.2.2
 obtain ⟨b', o', he, hb, hcell⟩ := hrow.1 (by simp)
 simp only [Option.some.injEq, Addr.mk.injEq, and_true] at he
 obtain ⟨rfl, rfl⟩ := he
 have hc0 := hcell 0 p.cells rfl
 have x0 := hc0 0 _ rfl
 have x1 := hc0 1 _ rfl
 have x2 := hc0 2 _ rfl
 have x3 := hc0 3 _ rfl
 simp only [Nat.zero_mul, Nat.add_zero] at x0 x1 x2 x3
 have HOC := Lib.hid (opened_cons f p ps)
 obtain ⟨res, hres⟩ : ∃ r, opened f (p :: ps) = r := ⟨_, rfl⟩
 rw [hres] at HOC
 rw [hres]
 obtain ⟨i0, hi, hz0, hz1, hz2⟩ := info_parts infoPat
 have HPP := Lib.hid (show p.args.length ≤ 1099511627776 ∧ RowAt w.heap.size w 4 p.at_ (p.args.map Pt.cells) ∧ (∀ q ∈ p.args, q.In w.heap.size w) ∧ p.args.length ≤ p.cap ∧ (p.at_ = none → p.cap = 0) by
  have h9 := HP.out
  obtain ⟨d9, s9, n9, a9, c9, l9⟩ := p
  obtain ⟨-, -, -, k1, k2, k3, k4⟩ := Pt.In_mk.1 h9
  exact ⟨k1, k3, k4, k2.1, k2.2⟩)
 have HB0 := Lib.hid (((Below.refl w.heap.size w).alloc (Nat.le_refl _) (.cells #[.string h.dof, .string h.name, .int .i64 h.num, .slice h.at_ h.args.length h.cap] 28)).alloc (by simp) (.cells #[.string p.dof, .string p.name, .int .i64 p.num, .slice p.at_ p.args.length p.cap] 28))
 have K1 := Lib.hid ((Blk.new w #[.string h.dof, .string h.name, .int .i64 h.num, .slice h.at_ h.args.length h.cap] 28).alloc (.cells #[.string p.dof, .string p.name, .int .i64 p.num, .slice p.at_ p.args.length p.cap] 28))
 have K2 := Lib.hid (Blk.new' (w.alloc (.cells #[.string h.dof, .string h.name, .int .i64 h.num, .slice h.at_ h.args.length h.cap] 28)) #[.string p.dof, .string p.name, .int .i64 p.num, .slice p.at_ p.args.length p.cap] 28 (w.heap.size + 1) (by simp))
 have HCW := Lib.hid (fun W => rwild_any p W)
 have HF := Lib.hid hf
 obtain ⟨k, hk9⟩ : ∃ k, f.types.length = k := ⟨_, rfl⟩
 rw [hk9] at hn h2 HOC
 clear hrow hcell hc0 hres hf hk9
 unfold Pt.val at *
 rw [hn] at HB0 K1 K2 ⊢
 clear hn
 go_enter Tryz.func82, Tryz.ntmps82
 go_wp2_with fail
 generalize (w.alloc (.cells #[.string h.dof, .string h.name, .int .i64 h.num, .slice h.at_ k h.cap] 28)).alloc (.cells #[.string p.dof, .string p.name, .int .i64 p.num, .slice p.at_ p.args.length p.cap] 28) = w0 at HB0 K1 K2 ⊢
 clear x0 x1 x2 x3
 refine Calls.mono (HCW.out _) ?_
 rintro e w1 ⟨rfl, hb1⟩
 have HB1 := Lib.hid (HB0.out.trans (hb1.mono HB0.out.size))
 have K11 := Lib.hid (K1.out.below hb1 K1.out.lt)
 have K21 := Lib.hid (K2.out.below hb1 K2.out.lt)
 obtain ⟨y0, y1, y2, y3⟩ := K11.out.four
 obtain ⟨z0, z1, z2, z3⟩ := K21.out.four
 have yl := K11.out.lt
 have zl := K21.out.lt
 clear hb1
 cases hw : wildD p.dof
 case true =>
  rw [hw] at HOC
  simp only [if_true] at HOC
  go_wp2_with fail
  clear y0 y1 y2 y3 z0 z1 z2 z3
  go_loopw [16, 7] (fun iv av wr => ∃ (j : Nat) (Aj : Option Addr) (cj : Nat), iv = .int .i64 j ∧ j ≤ k ∧ av = .slice Aj j cj ∧ Hid (Below w.heap.size w wr) ∧ Hid (wr.ownsRow w.heap.size 28 4 (.slice Aj j cj) j (((List.replicate j anyPt).map Pt.cells).flatten))) (fun iv _ _ => k - (intOf iv).toNat)
  case atStart => exact ⟨0, none, 0, rfl, Nat.zero_le _, rfl, HB1.out, World.ownsRow_nil _ _ _ _⟩
  case round =>
   obtain ⟨j, Aj, cj, rfl, hj, rfl, HB, HO⟩ := hrel
   have hs0 := HB.out.size
   by_cases hlt : j < k
   ·go_wp2_with (at_builtin; go_must (refine wpList_append_own_at _ rfl (.tmp 18) (.tmp 20) 26 rfl w.heap.size 28 i0 _ 4 64 Tryz.underlying26 hi hz0 hz1 hz2 rfl (by decide) (.slice Aj j cj) j (((List.replicate j anyPt).map Pt.cells).flatten) rfl ?hown ⟨wr.heap.size, 0, none⟩ 1 1 anyPt.cells rfl rfl ?c1 ?c2 ?c3 ?c4 ?c5 ?_))
    case hown => exact World.ownsRow.alloc HO.out _
    case c1 => exact World.news_of_block (heap_alloc_new wr _)
    case c2 => simp [Value.oneCell', Pt.cells]
    case c3 => unfold maxLen; omega
    case c4 => omega
    case c5 => first | omega | (simp; omega)
    intro v' w2 hown hgrow _ _
    obtain ⟨A2, c2, rfl, -⟩ := row_slice hown
    have HB2 := Lib.hid ((HB.out.alloc hs0 (.cells #[.string ⟨#[97, 110, 121]⟩, .string ⟨#[]⟩, .int .i64 0, .slice none 0 0] 28)).grown hgrow (by simp; omega) (fun i hi => (HO.out.lt i hi).1))
    have HO2 := Lib.hid hown
    clear hown hgrow
    go_wp2_with fail
    refine ⟨⟨j + 1, A2, c2, by go_num, by omega, rfl, HB2.out, Lib.hid ?_⟩, by simp [intOf]; omega⟩
    rw [cells_anys, List.map_append, List.flatten_append]
    simpa using HO2.out
   ·have hj2 : j = k := by omega
    subst hj2
    by_cases hc1 : c = 1
    ·subst hc1
     have hps : ps = [] := List.eq_nil_of_length_eq_zero (by omega)
     subst hps
     go_wp2_with (at_builtin; go_must (refine append_rowat rfl (.tmp 46) (.tmp 48) 26 rfl w.heap.size 28 i0 _ 4 64 Tryz.underlying26 hi hz0 hz1 hz2 rfl (by decide) (.slice Aj j cj) j (((List.replicate j anyPt).map Pt.cells).flatten) rfl HO.out w.heap.size (some ⟨b, o, none⟩) [] 0 ?hxQQa (fun h => by cases h) ?hrQQa ?hlQQa ?hkQQa ?hoQQa ?h6QQa ?hbQQa HB.out.size ?_))
     try case hxQQa => simp [Act.eval, Act.put]
     try case hrQQa => exact fun h => by simp at h
     try case hlQQa => simp <;> omega
     try case hkQQa => intro y hy; first | (cases hy; done) | (obtain ⟨q, -, rfl⟩ := List.mem_map.1 hy; rfl)
     try case hoQQa => intro y hy u hu; first | (cases hy; done) | (obtain ⟨q, -, rfl⟩ := List.mem_map.1 hy; simp only [Pt.cells, List.mem_cons, List.not_mem_nil, or_false] at hu; rcases hu with rfl | rfl | rfl | rfl <;> rfl)
     case h6QQa => unfold maxLen; first | omega | (simp only [List.length_nil, Nat.add_zero]; omega) | (simp only [List.length_map]; omega) | (have := hlen; simp at *; omega)
     case hbQQa => first | omega | (simp only [List.length_nil, Nat.add_zero]; omega) | (simp only [List.length_map]; omega) | (have := hlen; simp at *; omega)
     intro v9 w9 hown hgrow _
     obtain ⟨A9, c9, rfl, -⟩ := row_slice hown
     have HB9 := Lib.hid (HB.out.grown hgrow HB.out.size (fun i hi => (HO.out.lt i hi).1))
     have HV9 := Lib.hid (show PatsO w.heap.size w9 (.slice A9 (j + ([] : List (List Value)).length) c9) (List.replicate j anyPt ++ ([] : List Pt)) from ⟨A9, c9, by simp, by simpa using hown⟩)
     clear hown hgrow
     go_wp2_with fail
     exact bodyPost_ret (v := .tuple #[.slice A9 (j + ([] : List (List Value)).length) c9, .bool true]) (by simp [results, Tryz.results82, go_sem]) rfl (OpenPost.yes HB9.out HOC.out HV9.out)
    ·go_wp2_with (at_builtin; go_must (refine append_rowat rfl (.tmp 46) (.tmp 48) 26 rfl w.heap.size 28 i0 _ 4 64 Tryz.underlying26 hi hz0 hz1 hz2 rfl (by decide) (.slice Aj j cj) j (((List.replicate j anyPt).map Pt.cells).flatten) rfl HO.out w.heap.size (some ⟨b, o + 4, none⟩) (ps.map Pt.cells) (c - 1) ?hxQQ (fun h => by cases h) ?hrQQ ?hlQQ ?hkQQ ?hoQQ ?h6QQ ?hbQQ HB.out.size ?_))
     try case hxQQ => simp [Act.eval, Act.put]
     try case hrQQ => exact by have h9 := HTAIL.out.1.keep HB.out; rw [if_neg hc1] at h9; exact h9
     try case hlQQ => simp <;> omega
     try case hkQQ => intro y hy; first | (cases hy; done) | (obtain ⟨q, -, rfl⟩ := List.mem_map.1 hy; rfl)
     try case hoQQ => intro y hy u hu; first | (cases hy; done) | (obtain ⟨q, -, rfl⟩ := List.mem_map.1 hy; simp only [Pt.cells, List.mem_cons, List.not_mem_nil, or_false] at hu; rcases hu with rfl | rfl | rfl | rfl <;> rfl)
     case h6QQ => unfold maxLen; first | omega | (simp only [List.length_nil, Nat.add_zero]; omega) | (simp only [List.length_map]; omega) | (have := hlen; simp at *; omega)
     case hbQQ => first | omega | (simp only [List.length_nil, Nat.add_zero]; omega) | (simp only [List.length_map]; omega) | (have := hlen; simp at *; omega)
     intro v9 w9 hown hgrow _
     obtain ⟨A9, c9, rfl, -⟩ := row_slice hown
     have HB9 := Lib.hid (HB.out.grown hgrow HB.out.size (fun i hi => (HO.out.lt i hi).1))
     have HV9 := Lib.hid (show PatsO w.heap.size w9 (.slice A9 (j + (ps.map Pt.cells).length) c9) (List.replicate j anyPt ++ ps) from ⟨A9, c9, by simp, by simpa using hown⟩)
     clear hown hgrow
     go_wp2_with fail
     exact bodyPost_ret (v := .tuple #[.slice A9 (j + (ps.map Pt.cells).length) c9, .bool true]) (by simp [results, Tryz.results82, go_sem]) rfl (OpenPost.yes HB9.out HOC.out HV9.out)
 case false =>
  rw [hw] at HOC
  simp only [Bool.false_eq_true, if_false] at HOC
  obtain ⟨b1, h1⟩ : ∃ x, (p.dof.toList == h.dof.toList) = x := ⟨_, rfl⟩
  obtain ⟨b2, h2'⟩ : ∃ x, (p.name.toList == h.name.toList) = x := ⟨_, rfl⟩
  obtain ⟨b3, h3⟩ : ∃ x, (p.num == h.num) = x := ⟨_, rfl⟩
  have h1' := bne_of h1
  have h2'' := bne_of h2'
  have h3' : (p.num != h.num) = !b3 := by rw [bne, h3]
  have HIS := Lib.hid (show f.is p = (b1 && (b2 && b3)) by unfold Form.is; rw [← HF.out.1, ← HF.out.2.1, ← HF.out.2.2, h1, h2', h3])
  cases b1
  case false =>
   have HR := Lib.hid (show res = none by rw [HOC.out, HIS.out]; rfl)
   go_wp2_with fail
   exact bodyPost_ret (v := .tuple #[.slice none 0 0, .bool false]) (by simp [results, Tryz.results82, go_sem]) rfl (OpenPost.no HB1.out HR.out)
  cases b2
  case false =>
   have HR := Lib.hid (show res = none by rw [HOC.out, HIS.out]; rfl)
   go_wp2_with fail
   exact bodyPost_ret (v := .tuple #[.slice none 0 0, .bool false]) (by simp [results, Tryz.results82, go_sem]) rfl (OpenPost.no HB1.out HR.out)
  cases b3
  case false =>
   have HR := Lib.hid (show res = none by rw [HOC.out, HIS.out]; rfl)
   go_wp2_with fail
   exact bodyPost_ret (v := .tuple #[.slice none 0 0, .bool false]) (by simp [results, Tryz.results82, go_sem]) rfl (OpenPost.no HB1.out HR.out)
  case true =>
   have HR := Lib.hid (show res = some (p.args ++ ps) by rw [HOC.out, HIS.out]; rfl)
   have HON := Lib.hid (World.ownsRow_nil w1 w.heap.size 28 4)
   go_wp2_with (at_builtin; go_must (refine append_rowat rfl (.tmp 42) (.tmp 44) 26 rfl w.heap.size 28 i0 _ 4 64 Tryz.underlying26 hi hz0 hz1 hz2 rfl (by decide) (.slice none 0 0) 0 [] rfl HON.out w.heap.size p.at_ (p.args.map Pt.cells) p.cap ?gx ?gA ?gr ?gl ?gk ?go ?g6 ?gb HB1.out.size ?_))
   try case gx => simp [Act.eval, Act.put]
   case gA => exact HPP.out.2.2.2.2
   case gr => exact HPP.out.2.1.keep HB1.out
   case gl => have := HPP.out.2.2.2.1; simp <;> omega
   case gk => intro y hy; obtain ⟨q, -, rfl⟩ := List.mem_map.1 hy; rfl
   case go => intro y hy u hu; obtain ⟨q, -, rfl⟩ := List.mem_map.1 hy; simp only [Pt.cells, List.mem_cons, List.not_mem_nil, or_false] at hu; rcases hu with rfl | rfl | rfl | rfl <;> rfl
   case g6 => unfold maxLen; simp <;> omega
   case gb => simp <;> omega
   intro v8 w8 hown8 hgrow8 _
   obtain ⟨A8, c8, rfl, -⟩ := row_slice hown8
   have HB8 := Lib.hid (HB1.out.grown hgrow8 HB1.out.size (fun i hi => by simp [Value.ownBlock] at hi))
   have HO8 := Lib.hid (show w8.ownsRow w.heap.size 28 4 (.slice A8 (0 + (p.args.map Pt.cells).length) c8) (0 + (p.args.map Pt.cells).length) ((p.args.map Pt.cells).flatten) by simpa using hown8)
   clear hown8 hgrow8 y0 y1 y2 y3 z0 z1 z2 z3 yl zl
   have hpa : (p.args.map Pt.cells).length = p.args.length := List.length_map _
   rw [hpa, Nat.zero_add] at HO8
   clear hpa
   by_cases hc1 : c = 1
   ·subst hc1
    have hps : ps = [] := List.eq_nil_of_length_eq_zero (by omega)
    subst hps
    go_wp2_with (at_builtin; go_must (refine append_rowat rfl (.tmp 46) (.tmp 48) 26 rfl w.heap.size 28 i0 _ 4 64 Tryz.underlying26 hi hz0 hz1 hz2 rfl (by decide) (.slice A8 p.args.length c8) p.args.length ((p.args.map Pt.cells).flatten) rfl HO8.out w.heap.size (some ⟨b, o, none⟩) [] 0 ?hxRRa (fun h => by cases h) ?hrRRa ?hlRRa ?hkRRa ?hoRRa ?h6RRa ?hbRRa HB8.out.size ?_))
    try case hxRRa => simp [Act.eval, Act.put]
    try case hrRRa => exact fun h => by simp at h
    try case hlRRa => simp <;> omega
    try case hkRRa => intro y hy; first | (cases hy; done) | (obtain ⟨q, -, rfl⟩ := List.mem_map.1 hy; rfl)
    try case hoRRa => intro y hy u hu; first | (cases hy; done) | (obtain ⟨q, -, rfl⟩ := List.mem_map.1 hy; simp only [Pt.cells, List.mem_cons, List.not_mem_nil, or_false] at hu; rcases hu with rfl | rfl | rfl | rfl <;> rfl)
    case h6RRa => unfold maxLen; first | omega | (simp only [List.length_nil, Nat.add_zero]; omega) | (simp only [List.length_map]; omega) | (have := hlen; simp at *; omega)
    case hbRRa => first | omega | (simp only [List.length_nil, Nat.add_zero]; omega) | (simp only [List.length_map]; omega) | (have := hlen; simp at *; omega)
    intro v9 w9 hown hgrow _
    obtain ⟨A9, c9, rfl, -⟩ := row_slice hown
    have HB9 := Lib.hid (HB8.out.grown hgrow HB8.out.size (fun i hi => (HO8.out.lt i hi).1))
    have HV9 := Lib.hid (show PatsO w.heap.size w9 (.slice A9 (p.args.length + ([] : List (List Value)).length) c9) (p.args ++ ([] : List Pt)) from ⟨A9, c9, by simp, by simpa using hown⟩)
    clear hown hgrow
    go_wp2_with fail
    exact bodyPost_ret (v := .tuple #[.slice A9 (p.args.length + ([] : List (List Value)).length) c9, .bool true]) (by simp [results, Tryz.results82, go_sem]) rfl (OpenPost.yes HB9.out HR.out HV9.out)
   ·go_wp2_with (at_builtin; go_must (refine append_rowat rfl (.tmp 46) (.tmp 48) 26 rfl w.heap.size 28 i0 _ 4 64 Tryz.underlying26 hi hz0 hz1 hz2 rfl (by decide) (.slice A8 p.args.length c8) p.args.length ((p.args.map Pt.cells).flatten) rfl HO8.out w.heap.size (some ⟨b, o + 4, none⟩) (ps.map Pt.cells) (c - 1) ?hxRR (fun h => by cases h) ?hrRR ?hlRR ?hkRR ?hoRR ?h6RR ?hbRR HB8.out.size ?_))
    try case hxRR => simp [Act.eval, Act.put]
    try case hrRR => exact by have h9 := HTAIL.out.1.keep HB8.out; rw [if_neg hc1] at h9; exact h9
    try case hlRR => simp <;> omega
    try case hkRR => intro y hy; first | (cases hy; done) | (obtain ⟨q, -, rfl⟩ := List.mem_map.1 hy; rfl)
    try case hoRR => intro y hy u hu; first | (cases hy; done) | (obtain ⟨q, -, rfl⟩ := List.mem_map.1 hy; simp only [Pt.cells, List.mem_cons, List.not_mem_nil, or_false] at hu; rcases hu with rfl | rfl | rfl | rfl <;> rfl)
    case h6RR => unfold maxLen; first | omega | (simp only [List.length_nil, Nat.add_zero]; omega) | (simp only [List.length_map]; omega) | (have := hlen; simp at *; omega)
    case hbRR => first | omega | (simp only [List.length_nil, Nat.add_zero]; omega) | (simp only [List.length_map]; omega) | (have := hlen; simp at *; omega)
    intro v9 w9 hown hgrow _
    obtain ⟨A9, c9, rfl, -⟩ := row_slice hown
    have HB9 := Lib.hid (HB8.out.grown hgrow HB8.out.size (fun i hi => (HO8.out.lt i hi).1))
    have HV9 := Lib.hid (show PatsO w.heap.size w9 (.slice A9 (p.args.length + (ps.map Pt.cells).length) c9) (p.args ++ ps) from ⟨A9, c9, by simp, by simpa using hown⟩)
    clear hown hgrow
    go_wp2_with fail
    exact bodyPost_ret (v := .tuple #[.slice A9 (p.args.length + (ps.map Pt.cells).length) c9, .bool true]) (by simp [results, Tryz.results82, go_sem]) rfl (OpenPost.yes HB9.out HR.out HV9.out)
end Go.Proofs.YtjeggkfgdhepaaaGreatDoor
