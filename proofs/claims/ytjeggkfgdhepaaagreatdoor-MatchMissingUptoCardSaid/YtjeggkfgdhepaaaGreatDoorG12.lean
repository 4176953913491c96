/- The reference's opaque, parts and IsValue. -/
import Derived.Test.YtjeggkfgdhepaaaGreatDoorG11
set_option linter.unusedVariables false
set_option linter.unusedSimpArgs false
namespace Go.Proofs.YtjeggkfgdhepaaaGreatDoor
open Go.RowKit
open Go.Proofs
set_option maxRecDepth 100000 in
set_option maxHeartbeats 2000000 in
theorem opaque_any (t : Ty) (w : World) : Calls Tryz.prog 49 #[t.val] w fun e w' => e = .returned (.bool (opaqueT t)) ∧ Below w.heap.size w w' := by
 have HB0 := Lib.hid ((Below.refl w.heap.size w).alloc (Nat.le_refl _) (.cells #[.string t.dof, .string t.name, .slice t.at_ t.args.length t.cap] 25))
 unfold opaqueT isDo Ty.val
 obtain ⟨b1, h1⟩ : ∃ x, (t.dof.toList == [116, 101, 120, 116]) = x := ⟨_, rfl⟩
 obtain ⟨b2, h2⟩ : ∃ x, (t.dof.toList == [97, 114, 114, 97, 121]) = x := ⟨_, rfl⟩
 obtain ⟨b3, h3⟩ : ∃ x, (t.dof.toList == [102, 110]) = x := ⟨_, rfl⟩
 rw [h1, h2, h3]
 cases b1 <;> cases b2 <;> cases b3
 all_goals
  go_enter Tryz.func49, Tryz.ntmps49
  go_wp2_with fail
  go_ret
  exact ⟨rfl, HB0.out⟩
theorem parts_pok {l : List Dt} (hr : Right l) {t : Ty} (ht : okT l t) {p : Pt} (hw : p.wellB = true) (htame : wildD p.dof = false) (h : p.isOf l t = true) : POks l (partsD l t p.dof p.name) p.args ∧ ∀ u ∈ partsD l t p.dof p.name, okT l u := by
 have hp : POk l t p := ⟨hw, h⟩
 have key : ∀ f : Form, FormOk l t f → Head p f → f.types = partsD l t p.dof p.name → POks l (partsD l t p.dof p.name) p.args ∧ ∀ u ∈ partsD l t p.dof p.name, okT l u := fun f hf hh e => by
  rw [← e]
  exact ⟨hf.pat p hh hp, hf.types⟩
 rcases isOf_head hw htame h with k | k | k | k | k | k | k
 ·exact key _ (form_int k.2.2 p.num) ⟨k.1, k.2.1, rfl⟩ (by rw [k.1]; unfold partsD isDo; rw [l_int]; rfl)
 ·exact key _ (form_bool k.2.2.2 p.num k.2.2.1) ⟨k.1, k.2.1, rfl⟩ (by rw [k.1]; unfold partsD isDo; rw [l_bool]; rfl)
 ·exact key _ (form_unit k.2.2.2) ⟨k.1, k.2.1, k.2.2.1⟩ (by rw [k.1]; unfold partsD isDo; rw [l_unit]; rfl)
 ·exact key _ (form_nil k.2.2.2) ⟨k.1, k.2.1, k.2.2.1⟩ (by rw [k.1]; unfold partsD isDo; rw [l_nil]; rfl)
 ·exact key _ (form_pair ht k.2.2.2) ⟨k.1, k.2.1, k.2.2.1⟩ (by rw [k.1]; unfold partsD isDo; rw [l_pair]; rfl)
 ·exact key _ (form_cons ht k.2.2.2) ⟨k.1, k.2.1, k.2.2.1⟩ (by rw [k.1]; unfold partsD isDo; rw [l_cons]; rfl)
 ·obtain ⟨k1, k2, k3, c, hc, hcn⟩ := k
  exact key _ (form_con hr k3 hc) ⟨k1, hcn.symm, k2⟩ (by rw [k1, ← hcn, parts_con hr hc]; rfl)
theorem parts_in {B : Nat} {w : World} {A : Option Addr} {l : List Dt} (hd : DtsIn B w A l) {t : Ty} (ht : t.In B w) (d s : ByteArray) : ∀ u ∈ partsD l t d s, u.In B w := by
 have hta : ∀ u ∈ t.args, u.In B w := by
  obtain ⟨td, tn, ta, tc, ts⟩ := t
  exact (Ty.In_mk.1 ht).2.2.2.2.2
 intro u hu
 unfold partsD at hu
 split at hu
 ·exact hta u hu
 ·split at hu
  ·rcases List.mem_append.1 hu with h | h
   ·exact hta u (List.mem_of_mem_take h)
   ·simp only [List.mem_singleton] at h
    subst h
    exact ht
  ·split at hu
   ·split at hu
    ·rename_i c hc
     simp only [List.mem_singleton] at hu
     subst hu
     obtain ⟨d0, hd0, -, hcd, -⟩ := consOf_mem (List.mem_of_find?_eq_some hc)
     exact ((hd.each d0 hd0).2.2.2.2 c hcd).2
    ·cases hu
   ·cases hu
def STP (bt : Nat) (td tn : ByteArray) (b1 o1 n tc : Nat) (t0 : Ty) (W : World) : Prop :=
 W.cell? ⟨bt, 0, none⟩ = some (.string td) ∧ W.cell? ⟨bt, 1, none⟩ = some (.string tn) ∧ W.cell? ⟨bt, 2, none⟩ = some (.slice (some ⟨b1, o1, none⟩) n tc) ∧ bt < W.heap.size ∧ b1 < W.heap.size ∧
 W.cell? ⟨b1, o1, none⟩ = some (.string t0.dof) ∧ W.cell? ⟨b1, o1 + 1, none⟩ = some (.string t0.name) ∧ W.cell? ⟨b1, o1 + 2, none⟩ = some (.slice t0.at_ t0.args.length t0.cap)
def PartsP (pd : List Ty) (w : World) (e : Ending) (w' : World) : Prop := Below w.heap.size w w' ∧ ∃ (A : Option Addr) (c : Nat), e = .returned (.slice A pd.length c) ∧ RowAt w'.heap.size w' 3 A (pd.map Ty.cells) ∧ (A = none → c = 0) ∧ pd.length ≤ c
set_option maxRecDepth 100000 in
set_option maxHeartbeats 8000000 in
theorem rparts_any (A : Option Addr) (l : List Dt) (c : Nat) (t : Ty) (d s : ByteArray) (n : Int) (Ap : Option Addr) (cp : Nat) (ps : List Pt) (w : World) (hd : DtsIn w.heap.size w A l) (ht : t.In w.heap.size w) (hone : (d.toList == [99, 111, 110, 115]) = true → t.args.length = 1) (hs : s.size ≤ 1099511627776) :
  Calls Tryz.prog 51 #[.slice A l.length c, t.val, (Pt.mk d s n Ap cp ps).val] w (PartsP (partsD l t d s) w) := by
 obtain ⟨td, tn, ta, tc, ts⟩ := t
 obtain ⟨-, -, -, htcap, htrow, htall⟩ := Ty.In_mk.1 ht
 have HTC := Lib.hid htcap
 have HD := Lib.hid hd
 have HT := Lib.hid ht
 have HTR := Lib.hid htrow
 have HB0 := Lib.hid (((Below.refl w.heap.size w).alloc (Nat.le_refl _) (.cells #[.string td, .string tn, .slice ta ts.length tc] 25)).alloc (by simp) (.cells #[.string d, .string s, .int .i64 n, .slice Ap ps.length cp] 28))
 have K1 := Lib.hid ((Blk.new w #[.string td, .string tn, .slice ta ts.length tc] 25).alloc (.cells #[.string d, .string s, .int .i64 n, .slice Ap ps.length cp] 28))
 have K2 := Lib.hid (Blk.new' (w.alloc (.cells #[.string td, .string tn, .slice ta ts.length tc] 25)) #[.string d, .string s, .int .i64 n, .slice Ap ps.length cp] 28 (w.heap.size + 1) (by simp))
 have HPT := Lib.hid (show partsD l (.mk td tn ta tc ts) d s = if isDo [112, 97, 105, 114] d then ts else if isDo [99, 111, 110, 115] d then ts.take 1 ++ [.mk td tn ta tc ts] else if isDo [99, 111, 110] d then (match (consOf l tn).find? (fun c => c.name.toList == s.toList && c.has) with | some c => [c.ty] | none => []) else [] from rfl)
 generalize partsD l (.mk td tn ta tc ts) d s = pd at HPT ⊢
 obtain ⟨tp, hp⟩ : ∃ x, (d.toList == [112, 97, 105, 114]) = x := ⟨_, rfl⟩
 obtain ⟨tcs, hcs⟩ : ∃ x, (d.toList == [99, 111, 110, 115]) = x := ⟨_, rfl⟩
 obtain ⟨tcn, hcn⟩ : ∃ x, (d.toList == [99, 111, 110]) = x := ⟨_, rfl⟩
 have HPD := Lib.hid HPT.out
 unfold isDo at HPD
 rw [hp, hcs, hcn] at HPD
 unfold Ty.val Pt.val
 simp only [Ty.dof, Ty.name, Ty.at_, Ty.cap, Ty.args, Pt.dof, Pt.name, Pt.num, Pt.at_, Pt.cap, Pt.args] at hone ⊢
 cases tp
 case true =>
  have hpd := HPD.out
  simp only [if_true] at hpd
  subst hpd
  clear hd ht htrow htall htcap HPD HPT
  go_enter Tryz.func51, Tryz.ntmps51
  go_wp2_with fail
  exact bodyPost_ret (v := .slice ta pd.length tc) (by simp [results, Tryz.results51, go_sem]) rfl ⟨HB0.out, ta, tc, rfl, (HTR.out.keep HB0.out).wider HB0.out.size, HTC.out.2, HTC.out.1⟩
 cases tcs
 case true =>
  obtain ⟨t0, rfl⟩ := one_of (hone hcs)
  have hpd := HPD.out
  simp only [Bool.false_eq_true, if_false, if_true, List.take_succ_cons, List.take_zero, List.singleton_append] at hpd
  subst hpd
  obtain ⟨b1, o1, rfl, hb1, hc1⟩ := one_ty htrow
  have HC1 := Lib.hid hc1
  simp only [List.length_cons, List.length_nil, Nat.zero_add] at HB0 K1 K2 ⊢
  have hbox : ∀ W, Below ((w.alloc (.cells #[.string td, .string tn, .slice (some ⟨b1, o1, none⟩) 1 tc] 25)).alloc (.cells #[.string d, .string s, .int .i64 n, .slice Ap ps.length cp] 28)).heap.size ((w.alloc (.cells #[.string td, .string tn, .slice (some ⟨b1, o1, none⟩) 1 tc] 25)).alloc (.cells #[.string d, .string s, .int .i64 n, .slice Ap ps.length cp] 28)) W → STP w.heap.size td tn b1 o1 1 tc t0 W := fun W hW => by
   have k1 := K1.out.below hW K1.out.lt
   have hb := HB0.out.trans (hW.mono HB0.out.size)
   obtain ⟨q0, q1, q2⟩ := HC1.out W hb
   exact ⟨k1.cell 0, k1.cell 1, k1.cell 2, k1.lt, by have := hb.size; omega, q0, q1, q2⟩
  have HBOX := Lib.hid hbox
  clear hd ht htrow htall HPD HPT hc1 hbox htcap
  go_enter Tryz.func51, Tryz.ntmps51
  go_wp2_with fail
  generalize (w.alloc (.cells #[.string td, .string tn, .slice (some ⟨b1, o1, none⟩) 1 tc] 25)).alloc (.cells #[.string d, .string s, .int .i64 n, .slice Ap ps.length cp] 28) = w0 at HB0 K1 K2 HBOX ⊢
  refine region_mix (STP w.heap.size td tn b1 o1 1 tc t0) [(0, true), (1, true), (2, true), (3, true), (4, true), (5, false), (6, false)] 5 (by kernel_rfl) (by kernel_rfl) (HBOX.out _ (Below.refl _ _).drew) ?_
  simp only [pickM, List.filterMap_cons, List.getElem?_cons_zero, List.getElem?_cons_succ, List.filterMap_nil, Option.map_some]
  iterate 5
   refine wpMix_read ?_ (by rfl) (fun W hW => ?_) ?_
   rotate_left
   ·unfold STP at hW
    go_simp
    try with_reducible rfl
   simp only [Act.put, List.setIfInBounds_toArray, List.set_cons_zero, List.set_cons_succ]
  have HBG := Lib.hid (((Below.refl w0.heap.size w0).alloc (Nat.le_refl _) (.cells #[.string t0.dof, .string t0.name, .slice t0.at_ t0.args.length t0.cap, .string td, .string tn, .slice (some ⟨b1, o1, none⟩) 1 tc] 25)).drew)
  have HKG := Lib.hid ((Blk.new w0 #[.string t0.dof, .string t0.name, .slice t0.at_ t0.args.length t0.cap, .string td, .string tn, .slice (some ⟨b1, o1, none⟩) 1 tc] 25).drewN 1)
  refine wpMix_step rfl (fun K hK => ?_)
  go_simp
  refine hK _ _ (fun h => absurd h (by decide)) ?_
  clear hK K
  refine wpMix_step rfl (fun K hK => ?_)
  go_simp
  refine hK _ _ (fun h => absurd h (by decide)) ?_
  clear hK K
  refine wpMix_nil ?_
  refine NoPanic.normal ?_
  go_wp2_with fail
  exact bodyPost_ret (v := .slice (some ⟨w0.heap.size, 0, none⟩) 2 2) (by simp [results, Tryz.results51, go_sem]) rfl ⟨HB0.out.trans (HBG.out.mono HB0.out.size), some ⟨w0.heap.size, 0, none⟩, 2, rfl, row_tys (t0 := t0) (t1 := .mk td tn (some ⟨b1, o1, none⟩) tc [t0]) HKG.out HKG.out.lt, fun h => (by cases h), Nat.le_refl _⟩
 cases tcn
 case false =>
  have hpd := HPD.out
  simp only [Bool.false_eq_true, if_false] at hpd
  subst hpd
  clear hd ht htrow htall htcap HPD HPT
  go_enter Tryz.func51, Tryz.ntmps51
  go_wp2_with fail
  exact bodyPost_ret (v := .slice none 0 0) (by simp [results, Tryz.results51, go_sem]) rfl ⟨HB0.out, none, 0, rfl, fun h => (by simp at h), fun _ => rfl, Nat.le_refl _⟩
 case true =>
  have hpd := HPD.out
  simp only [Bool.false_eq_true, if_false, if_true] at hpd
  have HPK := Lib.hid hpd
  obtain ⟨nm, A9, c9, hform, hrow9, hx9, hl9⟩ := dtFound_cons hd tn
  have HR9 := Lib.hid hrow9
  have HX9 := Lib.hid hx9
  have HFORM := Lib.hid hform
  have HCD := Lib.hid (fun (W : World) (hW : Below w.heap.size w W) => datatype_any A l c tn W (HD.out.next hW))
  generalize consOf l tn = cs at hform hrow9 hx9 hl9 HR9 HX9 HFORM HPK
  clear hd ht htrow htall htcap HPD HPT hpd hform hrow9 hx9
  go_enter Tryz.func51, Tryz.ntmps51
  go_wp2_with fail
  generalize (w.alloc (.cells #[.string td, .string tn, .slice ta ts.length tc] 25)).alloc (.cells #[.string d, .string s, .int .i64 n, .slice Ap ps.length cp] 28) = w0 at HB0 K1 K2 ⊢
  refine Calls.mono (HCD.out _ HB0.out) ?_
  rintro e w1 ⟨rfl, hb1⟩
  rw [HFORM.out]
  have HB1 := Lib.hid (HB0.out.trans (hb1.mono HB0.out.size))
  have K21 := Lib.hid (K2.out.below hb1 K2.out.lt)
  generalize (dtFound l tn).2 = fnd at *
  clear hb1
  go_wp2_with fail
  have HB2 := Lib.hid (HB1.out.alloc HB1.out.size (.cells #[.string nm, .slice A9 cs.length c9] 111))
  have K22 := Lib.hid (K21.out.alloc (.cells #[.string nm, .slice A9 cs.length c9] 111))
  generalize w1.alloc (.cells #[.string nm, .slice A9 cs.length c9] 111) = w2 at HB2 K22 ⊢
  go_loopw [37] (fun iv wr => ∃ k : Nat, iv = .int .i64 k ∧ k ≤ cs.length ∧ Hid (Below w2.heap.size w2 wr) ∧ Hid (∀ j x, j < k → cs[j]? = some x → (fun c : Cn => c.name.toList == s.toList && c.has) x = false)) (fun iv _ => cs.length - (intOf iv).toNat)
  case atStart => exact ⟨0, rfl, Nat.zero_le _, Below.refl _ _, Lib.hid fun j x hj => absurd hj (Nat.not_lt_zero _)⟩
  case round =>
   obtain ⟨k, rfl, hk, HC, HN⟩ := hrel
   have HBW := Lib.hid (HB2.out.trans (HC.out.mono HB2.out.size))
   by_cases hlt : k < cs.length
   ·obtain ⟨x, b5, off5, hq5, hm5, hat5, hb5, z0, z1, z2, z3, z4⟩ := Cn.arg_at HR9.out HBW.out hlt
    have HQ5 := Lib.hid hq5
    rw [hat5]
    have hnamel := (HX9.out x hm5).1.1
    obtain ⟨v0, v1, v2, v3⟩ := (K22.out.below HC.out K22.out.lt).four
    have vl := (K22.out.below HC.out K22.out.lt).lt
    have HBC := Lib.hid (HC.out.alloc HC.out.size (.cells #[.string x.name, .bool x.has, .string x.ty.dof, .string x.ty.name, .slice x.ty.at_ x.ty.args.length x.ty.cap] 117))
    clear hq5
    obtain ⟨tnm, hnm⟩ : ∃ y, (x.name.toList == s.toList) = y := ⟨_, rfl⟩
    obtain ⟨hh, hhs⟩ : ∃ y, x.has = y := ⟨_, rfl⟩
    have HNM := Lib.hid (And.intro hnm hhs)
    rw [hhs] at z1 HBC
    cases tnm
    case false =>
     go_wp2_with fail
     exact ⟨⟨k + 1, by go_num, by omega, HBC.out, Lib.hid (not_before HN.out HQ5.out (by simp [HNM.out.1]))⟩, by simp [intOf]; omega⟩
    cases hh
    case false =>
     go_wp2_with fail
     exact ⟨⟨k + 1, by go_num, by omega, HBC.out, Lib.hid (not_before HN.out HQ5.out (by simp [HNM.out.1, HNM.out.2]))⟩, by simp [intOf]; omega⟩
    have hpd2 := HPK.out
    rw [find_hit HQ5.out (by simp [HNM.out.1, HNM.out.2]) HN.out] at hpd2
    simp only at hpd2
    subst hpd2
    have HBE := Lib.hid (HBC.out.alloc HBC.out.size (.cells #[.string x.ty.dof, .string x.ty.name, .slice x.ty.at_ x.ty.args.length x.ty.cap] 25))
    go_wp2_with fail
    exact bodyPost_ret (v := .slice (some ⟨wr.heap.size + 1, 0, none⟩) 1 1) (by simp [results, Tryz.results51, go_sem]) rfl ⟨HB2.out.trans (HBE.out.mono HB2.out.size), some ⟨wr.heap.size + 1, 0, none⟩, 1, rfl, row_ty1 (Blk.new' _ _ _ _ (by simp)) (by simp), fun h => (by cases h), Nat.le_refl _⟩
   ·have hk2 : k = cs.length := by omega
    have hn := HN.out
    rw [hk2] at hn
    have hpd2 := HPK.out
    rw [find_miss hn] at hpd2
    simp only at hpd2
    subst hpd2
    clear hn hk2
    go_wp2_with fail
    exact bodyPost_ret (v := .slice none 0 0) (by simp [results, Tryz.results51, go_sem]) rfl ⟨HBW.out, none, 0, rfl, fun h => (by simp at h), fun _ => rfl, Nat.le_refl _⟩
end Go.Proofs.YtjeggkfgdhepaaaGreatDoor

namespace Go.Proofs.YtjeggkfgdhepaaaGreatDoor
open Go.RowKit
open Go.Proofs
theorem isValL_no {l : List Dt} {ps : List Pt} {ts : List Ty} {k : Nat} {q : Pt} {u : Ty} (hq : ps[k]? = some q) (hu : ts[k]? = some u) (h : q.isVal l u = false) : isValL l ps ts = false := by
 cases hh : isValL l ps ts with
 | false => rfl
 | true =>
  unfold isValL at hh
  rw [List.all_eq_true] at hh
  have : (((ps.map fun q => q.isVal l).zipWith (fun f u => f u) ts))[k]? = some (q.isVal l u) := by
   rw [List.getElem?_zipWith, List.getElem?_map, hq, hu]
   rfl
  have := hh _ (List.mem_of_getElem? this)
  rw [h] at this
  cases this
theorem isValL_yes {l : List Dt} {ps : List Pt} {ts : List Ty} (h : ∀ (j : Nat) (q : Pt) (u : Ty), j < ts.length → ps[j]? = some q → ts[j]? = some u → q.isVal l u = true) : isValL l ps ts = true := by
 unfold isValL
 rw [List.all_eq_true]
 intro b hb
 obtain ⟨k, hk⟩ := List.getElem?_of_mem hb
 rw [List.getElem?_zipWith, List.getElem?_map] at hk
 cases hq : ps[k]? with
 | none => rw [hq] at hk; simp at hk
 | some q =>
  cases hu : ts[k]? with
  | none => rw [hq, hu] at hk; simp at hk
  | some u =>
   rw [hq, hu] at hk
   simp only [Option.map_some, Option.some.injEq] at hk
   rw [← hk]
   exact h k q u (List.getElem?_eq_some_iff.1 hu).1 hq hu
def IsValC (A : Option Addr) (l : List Dt) (c : Nat) (p : Pt) : Prop := ∀ (t : Ty) (w : World), DtsIn w.heap.size w A l → p.In w.heap.size w → p.wellB = true → t.In w.heap.size w → okT l t →
 Calls Tryz.prog 16 #[.slice A l.length c, t.val, p.val] w fun e w' => e = .returned (.bool (p.isVal l t)) ∧ Below w.heap.size w w'
theorem isOf_types {l : List Dt} (hr : Right l) : ∀ d ∈ l, ∀ x ∈ d.cons, x.has = true → x.ty.well (kindB .con) = true := fun d hd x hx hh => (((hr.cons d hd).2 x hx).2 hh).1
def SIW (bu bp : Nat) (u : Ty) (b2 o2 n c k : Nat) (q : Pt) (W : World) : Prop :=
 W.cell? ⟨bu, 0, none⟩ = some (.string u.dof) ∧ W.cell? ⟨bu, 1, none⟩ = some (.string u.name) ∧ W.cell? ⟨bu, 2, none⟩ = some (.slice u.at_ u.args.length u.cap) ∧ bu < W.heap.size ∧
 W.cell? ⟨bp, 3, none⟩ = some (.slice (some ⟨b2, o2, none⟩) n c) ∧ bp < W.heap.size ∧ b2 < W.heap.size ∧
 W.cell? ⟨b2, o2 + k * 4, none⟩ = some (.string q.dof) ∧ W.cell? ⟨b2, o2 + k * 4 + 1, none⟩ = some (.string q.name) ∧ W.cell? ⟨b2, o2 + k * 4 + 2, none⟩ = some (.int .i64 q.num) ∧ W.cell? ⟨b2, o2 + k * 4 + 3, none⟩ = some (.slice q.at_ q.args.length q.cap)
set_option maxRecDepth 100000 in
set_option maxHeartbeats 8000000 in
theorem isVal_any (A : Option Addr) (l : List Dt) (c : Nat) (hr : Right l) : ∀ p : Pt, IsValC A l c p := by
 refine Pt.induct fun d s n Ap cp ps ih t w hd hp hw ht hok => ?_
 have HMK := Lib.hid (Pt.isVal_mk l d s n Ap cp ps t)
 obtain ⟨hds, hss, -, hplen, -, hprow, hpall⟩ := Pt.In_mk.1 hp
 have HD := Lib.hid hd
 have HPR := Lib.hid hprow
 have HPA := Lib.hid hpall
 have HIH := Lib.hid ih
 have HWA := Lib.hid (show ∀ q ∈ ps, q.wellB = true by rw [Pt.wellB_mk, Bool.and_eq_true, List.all_eq_true] at hw; exact hw.2)
 have HTI := Lib.hid ht
 have HB0 := Lib.hid (((Below.refl w.heap.size w).alloc (Nat.le_refl _) (.cells #[.string t.dof, .string t.name, .slice t.at_ t.args.length t.cap] 25)).alloc (by simp) (.cells #[.string d, .string s, .int .i64 n, .slice Ap ps.length cp] 28))
 have K1 := Lib.hid ((Blk.new w #[.string t.dof, .string t.name, .slice t.at_ t.args.length t.cap] 25).alloc (.cells #[.string d, .string s, .int .i64 n, .slice Ap ps.length cp] 28))
 have K2 := Lib.hid (Blk.new' (w.alloc (.cells #[.string t.dof, .string t.name, .slice t.at_ t.args.length t.cap] 25)) #[.string d, .string s, .int .i64 n, .slice Ap ps.length cp] 28 (w.heap.size + 1) (by simp))
 have HC1 := Lib.hid (fun (W : World) => opaque_any t W)
 have HC2 := Lib.hid (fun (W : World) => rwild_any (.mk d s n Ap cp ps) W)
 have HC3 := Lib.hid (fun (W : World) (hW : Below w.heap.size w W) => isOf_any A l c (isOf_types hr) (.mk d s n Ap cp ps) t W (hd.next hW) (hp.next hW) hw (ht.next hW) hok.1)
 have HPK := Lib.hid (fun (htame : wildD d = false) (h : (Pt.mk d s n Ap cp ps).isOf l t = true) => (show POks l (partsD l t d s) ps ∧ ∀ u ∈ partsD l t d s, okT l u from parts_pok hr hok hw htame h))
 have HPIN := Lib.hid (fun (W : World) (hW : Below w.heap.size w W) => parts_in (hd.next hW) (ht.next hW) d s)
 have HC4 := Lib.hid (fun (htame : wildD d = false) (h : (Pt.mk d s n Ap cp ps).isOf l t = true) (W : World) (hW : Below w.heap.size w W) => rparts_any A l c t d s n Ap cp ps W (hd.next hW) (ht.next hW) (fun hc => by
  rcases isOf_head hw htame h with k | k | k | k | k | k | k
  all_goals try (have hk := k.1; simp only [Pt.dof] at hk; subst hk; (first | rw [l_int] at hc | rw [l_bool] at hc | rw [l_unit] at hc | rw [l_nil] at hc | rw [l_pair] at hc | rw [l_con] at hc); exact absurd hc (by decide))
  obtain ⟨t0, ht0⟩ := list_args hok k.2.2.2
  rw [ht0]
  rfl) hss)
 generalize hop : opaqueT t = op at HMK HC1
 obtain ⟨wl, hwl⟩ : ∃ x, wildD d = x := ⟨_, rfl⟩
 have hwd : wildD (Pt.mk d s n Ap cp ps).dof = wl := hwl
 rw [hwd] at HC2
 rw [hwl] at HMK HC4 HPK
 generalize (Pt.mk d s n Ap cp ps).isVal l t = res at HMK ⊢
 obtain ⟨io, hio⟩ : ∃ x, (Pt.mk d s n Ap cp ps).isOf l t = x := ⟨_, rfl⟩
 rw [hio] at HMK HC3 HC4 HPK
 clear hd hp hw ht hok hprow hpall ih hop hwl hwd hio
 unfold Ty.val Pt.val at *
 simp only [Pt.dof, Pt.name, Pt.num, Pt.at_, Pt.cap, Pt.args] at *
 obtain ⟨ta, hta⟩ : ∃ x, (d.toList == [97, 110, 121]) = x := ⟨_, rfl⟩
 have HR1 := Lib.hid (show (op || wl) = true → res = (op && ta) from fun h => by rw [HMK.out, if_pos h]; unfold isDo; rw [hta])
 have HR2 := Lib.hid (show (op || wl) = false → res = (io && isValL l ps (partsD l t d s)) from fun h => by rw [HMK.out, if_neg (by rw [h]; decide)])
 clear HMK
 cases op
 case true =>
  rw [show res = (true && ta) from HR1.out (by simp)]
  cases ta
  all_goals
   go_enter Tryz.func16, Tryz.ntmps16
   go_wp2_with fail
   generalize (w.alloc (.cells #[.string t.dof, .string t.name, .slice t.at_ t.args.length t.cap] 25)).alloc (.cells #[.string d, .string s, .int .i64 n, .slice Ap ps.length cp] 28) = w0 at HB0 K1 K2 ⊢
   refine Calls.mono (HC1.out _) ?_
   rintro e w1 ⟨rfl, hb1⟩
   have HB1 := Lib.hid (HB0.out.trans (hb1.mono HB0.out.size))
   have K11 := Lib.hid (K1.out.below hb1 K1.out.lt)
   have K21 := Lib.hid (K2.out.below hb1 K2.out.lt)
   obtain ⟨y0, y1, y2⟩ := K11.out.three
   have yl := K11.out.lt
   clear hb1
   go_wp2_with fail
   refine Calls.mono (HC1.out _) ?_
   rintro e w2 ⟨rfl, hb2⟩
   have HB2 := Lib.hid (HB1.out.trans (hb2.mono HB1.out.size))
   have K22 := Lib.hid (K21.out.below hb2 K21.out.lt)
   obtain ⟨z0, z1, z2, z3⟩ := K22.out.four
   have zl := K22.out.lt
   clear hb2 y0 y1 y2 yl
   go_wp2_with fail
   go_ret
   exact ⟨rfl, HB2.out⟩
 cases wl
 case true =>
  rw [show res = (false && ta) from HR1.out (by simp)]
  go_enter Tryz.func16, Tryz.ntmps16
  go_wp2_with fail
  generalize (w.alloc (.cells #[.string t.dof, .string t.name, .slice t.at_ t.args.length t.cap] 25)).alloc (.cells #[.string d, .string s, .int .i64 n, .slice Ap ps.length cp] 28) = w0 at HB0 K1 K2 ⊢
  refine Calls.mono (HC1.out _) ?_
  rintro e w1 ⟨rfl, hb1⟩
  have HB1 := Lib.hid (HB0.out.trans (hb1.mono HB0.out.size))
  have K11 := Lib.hid (K1.out.below hb1 K1.out.lt)
  have K21 := Lib.hid (K2.out.below hb1 K2.out.lt)
  obtain ⟨z0, z1, z2, z3⟩ := K21.out.four
  have zl := K21.out.lt
  clear hb1
  go_wp2_with fail
  refine Calls.mono (HC2.out _) ?_
  rintro e w2 ⟨rfl, hb2⟩
  have HB2 := Lib.hid (HB1.out.trans (hb2.mono HB1.out.size))
  have K12 := Lib.hid (K11.out.below hb2 K11.out.lt)
  obtain ⟨y0, y1, y2⟩ := K12.out.three
  have yl := K12.out.lt
  clear hb2 z0 z1 z2 z3 zl
  go_wp2_with fail
  refine Calls.mono (HC1.out _) ?_
  rintro e w3 ⟨rfl, hb3⟩
  have HB3 := Lib.hid (HB2.out.trans (hb3.mono HB2.out.size))
  clear hb3 y0 y1 y2 yl
  go_wp2_with fail
  go_ret
  exact ⟨rfl, HB3.out⟩
 have hres := HR2.out (by simp)
 have HRES := Lib.hid hres
 clear hres HR1 HR2
 go_enter Tryz.func16, Tryz.ntmps16
 go_wp2_with fail
 generalize (w.alloc (.cells #[.string t.dof, .string t.name, .slice t.at_ t.args.length t.cap] 25)).alloc (.cells #[.string d, .string s, .int .i64 n, .slice Ap ps.length cp] 28) = w0 at HB0 K1 K2 ⊢
 refine Calls.mono (HC1.out _) ?_
 rintro e w1 ⟨rfl, hb1⟩
 have HB1 := Lib.hid (HB0.out.trans (hb1.mono HB0.out.size))
 have K11 := Lib.hid (K1.out.below hb1 K1.out.lt)
 have K21 := Lib.hid (K2.out.below hb1 K2.out.lt)
 obtain ⟨z0, z1, z2, z3⟩ := K21.out.four
 have zl := K21.out.lt
 clear hb1
 go_wp2_with fail
 refine Calls.mono (HC2.out _) ?_
 rintro e w2 ⟨rfl, hb2⟩
 have HB2 := Lib.hid (HB1.out.trans (hb2.mono HB1.out.size))
 have K12 := Lib.hid (K11.out.below hb2 K11.out.lt)
 have K22 := Lib.hid (K21.out.below hb2 K21.out.lt)
 clear z0 z1 z2 z3 zl
 obtain ⟨y0, y1, y2⟩ := K12.out.three
 have yl := K12.out.lt
 obtain ⟨z0, z1, z2, z3⟩ := K22.out.four
 have zl := K22.out.lt
 clear hb2
 go_wp2_with fail
 refine Calls.mono (HC3.out _ HB2.out) ?_
 rintro e w3 ⟨rfl, hb3⟩
 have HB3 := Lib.hid (HB2.out.trans (hb3.mono HB2.out.size))
 have K13 := Lib.hid (K12.out.below hb3 K12.out.lt)
 have K23 := Lib.hid (K22.out.below hb3 K22.out.lt)
 clear hb3 y0 y1 y2 yl z0 z1 z2 z3 zl
 cases io
 case false =>
  go_wp2_with fail
  go_ret
  exact ⟨by rw [HRES.out]; rfl, HB3.out⟩
 obtain ⟨y0, y1, y2⟩ := K13.out.three
 have yl := K13.out.lt
 obtain ⟨z0, z1, z2, z3⟩ := K23.out.four
 have zl := K23.out.lt
 obtain ⟨hpk1, hpk2⟩ := HPK.out (by simp) (by simp)
 have HLEN := Lib.hid hpk1.length
 have HOKU := Lib.hid hpk2
 have HUIN := Lib.hid (HPIN.out)
 have HC5 := Lib.hid (HC4.out (by simp) (by simp))
 unfold PartsP at HC5
 clear hpk1 hpk2 HPK HC4
 generalize partsD l t d s = pd at HLEN HOKU HUIN HC5 HRES HPIN
 have hpl : pd.length ≤ 1099511627776 := by have := HLEN.out; omega
 go_wp2_with fail
 refine Calls.mono (HC5.out _ HB3.out) ?_
 rintro e w4 ⟨hb4, A4, c4, rfl, hrow4, -⟩
 have HROW := Lib.hid hrow4
 have HB4 := Lib.hid (HB3.out.trans (hb4.mono HB3.out.size))
 have K24 := Lib.hid (K23.out.below hb4 K23.out.lt)
 clear hb4 hrow4 y0 y1 y2 yl z0 z1 z2 z3 zl
 go_wp2_with fail
 go_loopw [32] (fun iv wr => ∃ k : Nat, iv = .int .i64 k ∧ k ≤ pd.length ∧ Hid (Below w4.heap.size w4 wr) ∧ Hid (∀ (j : Nat) (q : Pt) (u : Ty), j < k → ps[j]? = some q → pd[j]? = some u → q.isVal l u = true)) (fun iv _ => pd.length - (intOf iv).toNat)
 case atStart => exact ⟨0, rfl, Nat.zero_le _, Below.refl _ _, Lib.hid fun j q u hj => absurd hj (Nat.not_lt_zero _)⟩
 case round =>
  obtain ⟨k, rfl, hk, HC, HN⟩ := hrel
  have HBW := Lib.hid (HB4.out.trans (HC.out.mono HB4.out.size))
  by_cases hlt : k < pd.length
  ·obtain ⟨u, bu, ou, hu, hum, rfl, hbu, u0, u1, u2⟩ := Ty.arg_at HROW.out HC.out hlt
   have HU := Lib.hid hu
   have HUM := Lib.hid hum
   obtain ⟨q, b2, o2, hq, hqm, rfl, hb2, q0, q1, q2, q3⟩ := Pt.arg_at (k := k) HPR.out HBW.out (by have := HLEN.out; omega)
   have HQ := Lib.hid hq
   have HQM := Lib.hid hqm
   have hkl : k < ps.length := by have := HLEN.out; omega
   have K25 := Lib.hid ((K24.out.below HC.out K24.out.lt).alloc (.cells #[.string u.dof, .string u.name, .slice u.at_ u.args.length u.cap] 25))
   have KU := Lib.hid (Blk.new wr #[.string u.dof, .string u.name, .slice u.at_ u.args.length u.cap] 25)
   have HBA := Lib.hid (HC.out.alloc HC.out.size (.cells #[.string u.dof, .string u.name, .slice u.at_ u.args.length u.cap] 25))
   have HBB := Lib.hid (HBW.out.alloc HBW.out.size (.cells #[.string u.dof, .string u.name, .slice u.at_ u.args.length u.cap] 25))
   have hbox : ∀ W, Below (wr.alloc (.cells #[.string u.dof, .string u.name, .slice u.at_ u.args.length u.cap] 25)).heap.size (wr.alloc (.cells #[.string u.dof, .string u.name, .slice u.at_ u.args.length u.cap] 25)) W → SIW wr.heap.size (w.heap.size + 1) u b2 o2 ps.length cp k q W := fun W hW => by
    have k1 := KU.out.below hW KU.out.lt
    have k2 := K25.out.below hW K25.out.lt
    have hb9 : b2 < wr.heap.size := by have := HBW.out.size; omega
    have hbw : Below wr.heap.size wr W := ((Below.refl _ _).alloc (Nat.le_refl _) _).trans (hW.mono (by simp))
    have hc := fun (j : Nat) => hbw.cell (p := ⟨b2, j, none⟩) hb9
    exact ⟨k1.cell 0, k1.cell 1, k1.cell 2, k1.lt, k2.cell 3, k2.lt, by have := hbw.size; omega, (hc _).trans q0, (hc _).trans q1, (hc _).trans q2, (hc _).trans q3⟩
   have HBOX := Lib.hid hbox
   have HCI := Lib.hid (fun (W : World) (hW : Below w.heap.size w W) => HIH.out q hqm u W (HD.out.next hW) ((HPA.out q hqm).next hW) (HWA.out q hqm) (HUIN.out W hW u hum) (HOKU.out u hum))
   generalize hr0 : q.isVal l u = r0 at HCI
   have HR0 := Lib.hid hr0
   unfold Ty.val Pt.val at HCI
   clear hu hum hq hqm q0 q1 q2 q3 hbox hr0
   go_wp2_with fail
   clear u0 u1 u2
   generalize wr.alloc (.cells #[.string u.dof, .string u.name, .slice u.at_ u.args.length u.cap] 25) = w5 at HBOX HBA HBB ⊢
   refine region_mix (SIW wr.heap.size (w.heap.size + 1) u b2 o2 ps.length cp k q) [(0, true), (1, true), (2, true), (3, true), (4, true), (5, true), (6, true), (7, false), (8, false)] 7 (by kernel_rfl) (by kernel_rfl) (HBOX.out _ (Below.refl _ _).drew) ?_
   simp only [pickM, List.filterMap_cons, List.getElem?_cons_zero, List.getElem?_cons_succ, List.filterMap_nil, Option.map_some]
   iterate 7
    refine wpMix_read ?_ (by rfl) (fun W hW => ?_) ?_
    rotate_left
    ·unfold SIW at hW
     go_simp
     try with_reducible rfl
    simp only [Act.put, List.setIfInBounds_toArray, List.set_cons_zero, List.set_cons_succ]
   refine wpMix_step rfl (fun K hK => ?_)
   go_simp
   refine Calls.mono (HCI.out _ HBB.out.drew) ?_
   rintro e w6 ⟨rfl, hb6⟩
   have HD6 := Lib.hid ((Below.refl w5.heap.size w5).drew.trans (hb6.mono (Below.refl w5.heap.size w5).drew.size))
   clear hb6
   refine hK _ _ (fun _ => HBOX.out _ HD6.out) ?_
   clear hK K
   refine wpMix_step rfl (fun K hK => ?_)
   go_simp
   refine hK _ _ (fun _ => HBOX.out _ HD6.out) ?_
   clear hK K
   refine wpMix_nil ?_
   refine NoPanic.normal ?_
   cases r0
   case false =>
    have HNO := Lib.hid (show res = false by rw [HRES.out, isValL_no HQ.out HU.out HR0.out]; rfl)
    go_wp2_with fail
    go_ret
    exact ⟨by simp [HNO.out], HBB.out.trans (HD6.out.mono HBB.out.size)⟩
   case true =>
    have HN2 := Lib.hid (show ∀ (j : Nat) (q : Pt) (u : Ty), j < k + 1 → ps[j]? = some q → pd[j]? = some u → q.isVal l u = true from fun j q' u' hj h1 h2 => by
     by_cases hjk : j < k
     ·exact HN.out j q' u' hjk h1 h2
     ·have : j = k := by omega
      subst this
      have e1 := HQ.out.symm.trans h1
      have e2 := HU.out.symm.trans h2
      cases e1
      cases e2
      exact HR0.out)
    go_wp2_with fail
    exact ⟨⟨k + 1, by go_num, by omega, HBA.out.trans (HD6.out.mono HBA.out.size), HN2.out⟩, by simp [intOf]; omega⟩
  ·have hk2 : k = pd.length := by omega
   have hn := HN.out
   rw [hk2] at hn
   have HYES := Lib.hid (show res = true by rw [HRES.out, isValL_yes (fun j q u hj => hn j q u hj)]; rfl)
   clear hn hk2
   go_wp2_with fail
   go_ret
   exact ⟨by simp [HYES.out], HBW.out⟩
end Go.Proofs.YtjeggkfgdhepaaaGreatDoor

namespace Go.Proofs.YtjeggkfgdhepaaaGreatDoor
open Go.RowKit
open Go.Proofs
open Go.Maps
theorem firstOf_cases (l : List Pt) (v : Pt) : (∃ (i : Nat) (q : Pt), l[i]? = some q ∧ q.matchB v = true ∧ (∀ (j : Nat) (q : Pt), j < i → l[j]? = some q → q.matchB v = false) ∧ firstOf l v = (i : Nat)) ∨ ((∀ (j : Nat) (q : Pt), l[j]? = some q → q.matchB v = false) ∧ firstOf l v = -1) := by
 by_cases h : ∀ (j : Nat) (q : Pt), l[j]? = some q → q.matchB v = false
 ·exact .inr ⟨h, firstOf_miss fun j q _ hj => h j q hj⟩
 ·refine .inl ?_
  have h1 : ∃ (i : Nat) (q : Pt), l[i]? = some q ∧ q.matchB v = true := by
   apply Classical.byContradiction
   intro hn
   exact h fun j q hj => by
    cases hm : q.matchB v with
    | false => rfl
    | true => exact absurd ⟨j, q, hj, hm⟩ hn
  have key : ∀ n : Nat, (∃ i, i ≤ n ∧ ∃ q : Pt, l[i]? = some q ∧ q.matchB v = true) → ∃ (i : Nat) (q : Pt), l[i]? = some q ∧ q.matchB v = true ∧ ∀ (j : Nat) (q : Pt), j < i → l[j]? = some q → q.matchB v = false := by
   intro n
   induction n with
   | zero =>
    rintro ⟨i, hi, q, h2, h3⟩
    refine ⟨i, q, h2, h3, fun j q hj => by omega⟩
   | succ n ih =>
    rintro ⟨i, hi, q, h2, h3⟩
    by_cases hb : ∃ i, i ≤ n ∧ ∃ q : Pt, l[i]? = some q ∧ q.matchB v = true
    ·exact ih hb
    ·refine ⟨i, q, h2, h3, fun j q' hj hq' => ?_⟩
     cases hm : q'.matchB v with
     | false => rfl
     | true => exact absurd ⟨j, by omega, q', hq', hm⟩ hb
  obtain ⟨i, q, h2, h3⟩ := h1
  obtain ⟨i, q, h2, h3, h4⟩ := key i ⟨i, Nat.le_refl _, q, h2, h3⟩
  exact ⟨i, q, h2, h3, h4, firstOf_hit (List.getElem?_eq_some_iff.1 h2).1 (fun q' hq' => by rw [h2] at hq'; cases hq'; exact h3) h4⟩
end Go.Proofs.YtjeggkfgdhepaaaGreatDoor

namespace Go.Proofs.YtjeggkfgdhepaaaGreatDoor
open Go.RowKit
open Go.Proofs
def Pt.bare : Pt → Pt
 | .mk d s n _ _ l => .mk d s n none 0 (l.map fun p => p.bare)
theorem Pt.bare_mk (d s : ByteArray) (n : Int) (a : Option Addr) (c : Nat) (l : List Pt) : (Pt.mk d s n a c l).bare = .mk d s n none 0 (l.map Pt.bare) := by rw [Pt.bare]
theorem bare_well (p : Pt) : p.bare.wellB = p.wellB := by
 refine Pt.induct (p := fun p => p.bare.wellB = p.wellB) (fun d s n a c l ih => ?_) p
 rw [Pt.bare_mk, Pt.wellB_mk, Pt.wellB_mk, List.length_map]
 congr 1
 rw [Bool.eq_iff_iff, List.all_eq_true, List.all_eq_true]
 constructor
 ·intro h q hq
  rw [← ih q hq]
  exact h _ (List.mem_map.2 ⟨q, hq, rfl⟩)
 ·intro h q hq
  obtain ⟨x, hx, rfl⟩ := List.mem_map.1 hq
  rw [ih x hx]
  exact h x hx
theorem bare_isOf (l : List Dt) (p : Pt) : ∀ t, p.bare.isOf l t = p.isOf l t := by
 refine Pt.induct (p := fun p => ∀ t, p.bare.isOf l t = p.isOf l t) (fun d s n a c ps ih t => ?_) p
 have hL : ∀ ts, isOfL l (ps.map Pt.bare) ts = isOfL l ps ts := by
  intro ts
  unfold isOfL
  rw [List.map_map]
  congr 2
  exact List.map_congr_left fun q hq => funext fun u => ih q hq u
 rw [Pt.bare_mk, Pt.isOf_mk, Pt.isOf_mk, hL, hL, List.length_map]
 cases pickC l t s ps.length with
 | none => rfl
 | some c => simp only [hL]
theorem bare_isVal (l : List Dt) (p : Pt) : ∀ t, p.bare.isVal l t = p.isVal l t := by
 refine Pt.induct (p := fun p => ∀ t, p.bare.isVal l t = p.isVal l t) (fun d s n a c ps ih t => ?_) p
 have hL : ∀ ts, isValL l (ps.map Pt.bare) ts = isValL l ps ts := by
  intro ts
  unfold isValL
  rw [List.map_map]
  congr 2
  exact List.map_congr_left fun q hq => funext fun u => ih q hq u
 have h1 := bare_isOf l (.mk d s n a c ps) t
 rw [Pt.bare_mk] at h1 ⊢
 rw [Pt.isVal_mk, Pt.isVal_mk, hL, h1]
theorem matchAll_bare : ∀ (l vl : List Pt), (∀ p ∈ l, ∀ v : Pt, p.matchB v.bare = p.matchB v) → matchAll l vl = matchAll l (vl.map Pt.bare)
 | [], _, _ => by simp [matchAll]
 | _ :: _, [], _ => by simp [matchAll]
 | p :: l, v :: vl, h => by
  rw [List.map_cons, matchAll_cons, matchAll_cons, h p (by simp), matchAll_bare l vl fun q hq => h q (by simp [hq])]
theorem bare_match (p : Pt) : ∀ v : Pt, p.matchB v.bare = p.matchB v := by
 refine Pt.induct (p := fun p => ∀ v : Pt, p.matchB v.bare = p.matchB v) (fun d s n a c l ih v => ?_) p
 obtain ⟨vd, vs, vn, va, vc, vl⟩ := v
 rw [Pt.bare_mk, Pt.matchB_mk, Pt.matchB_mk]
 simp only [Pt.dof, Pt.name, Pt.num, Pt.args, List.length_map]
 have hm : matchAll l (vl.map Pt.bare) = matchAll l vl := by
  rw [← matchAll_bare l vl ih]
 rw [hm]
theorem bare_val {l : List Dt} {t : Ty} {p q : Pt} (h : q.bare = p.bare) (hv : Val l t p) : Val l t q := by
 refine ⟨?_, ?_⟩
 ·rw [← bare_well, h, bare_well]; exact hv.1
 ·rw [← bare_isVal, h, bare_isVal]; exact hv.2
theorem bare_same {p q : Pt} (h : q.bare = p.bare) (r : Pt) : r.matchB q = r.matchB p := by rw [← bare_match r q, h, bare_match]
def CE (lo : Nat) (o : Option Nat) (W : World) (q : Pt) : Prop := ∃ s e, lo ≤ s ∧ q.From s ∧ q.In e W ∧ e ≤ W.heap.size ∧ ∀ j, o = some j → j < s ∨ e ≤ j
section
variable {lo : Nat} {o o' : Option Nat} {W W1 : World} {q : Pt}
theorem CE.next (h : CE lo o W q) (hb : Below W.heap.size W W1) : CE lo o W1 q := by
 obtain ⟨s, e, h1, h2, h3, h4, h5⟩ := h
 exact ⟨s, e, h1, h2, Pt.In.keep (hb.mono h4) _ h3, Nat.le_trans h4 hb.size, h5⟩
theorem CE.grown' (h : CE lo o' W q) (hg : W.grownBy W1 o) (ho : ∀ j, o' = some j → o = some j ∨ W.heap.size ≤ j) (h0 : CE lo o W q) : CE lo o' W1 q := by
 obtain ⟨s, e, h1, h2, h3, h4, h5⟩ := h0
 refine ⟨s, e, h1, h2, Pt.In.moved (fun k hk1 hk2 => hg.block k (by omega) (fun hh => by have := h5 k hh.symm; omega)) (Nat.le_refl _) _ h3 h2, Nat.le_trans h4 hg.size, fun j hj => ?_⟩
 rcases ho j hj with h | h
 ·exact h5 j h
 ·omega
theorem CE.other (h : CE lo o W q) (ho : ∀ j, o' = some j → o = some j ∨ W.heap.size ≤ j) : CE lo o' W q := by
 obtain ⟨s, e, h1, h2, h3, h4, h5⟩ := h
 refine ⟨s, e, h1, h2, h3, h4, fun j hj => ?_⟩
 rcases ho j hj with h | h
 ·exact h5 j h
 ·omega
theorem CE.set (h : CE lo o W q) {b : Nat} (hb : b < lo) (j : Nat) (v : Value) : CE lo o (W.setCell ⟨b, j, none⟩ v) q := by
 obtain ⟨s, e, h1, h2, h3, h4, h5⟩ := h
 exact ⟨s, e, h1, h2, Pt.In.moved (fun k hk1 hk2 => Below.heap_setCell _ _ _ _ (by simp only; omega)) (Nat.le_refl _) _ h3 h2, by simpa [World.setCell] using h4, h5⟩
theorem CE.out (h : CE lo o W q) : q.In W.heap.size W ∧ q.From lo := by
 obtain ⟨s, e, h1, h2, h3, h4, h5⟩ := h
 exact ⟨Pt.In.wider h4 _ h3, Pt.From.less h1 _ h2⟩
end
structure CL (w W : World) (d s : ByteArray) (n : Int) (ps : List Pt) (k : Nat) (A : Option Addr) (c : Nat) (qs : List Pt) : Prop where
 bel : Below w.heap.size w W
 sz : w.heap.size + 3 ≤ W.heap.size
 res : Blk W (w.heap.size + 1) #[.string ⟨#[]⟩, .string ⟨#[]⟩, .int .i64 0, .slice none 0 0] 28
 cur : Blk W (w.heap.size + 1 + 1) #[.string d, .string s, .int .i64 n, .slice A k c] 28
 own : W.ownsRow (w.heap.size + 3) 28 4 (.slice A k c) k ((qs.map Pt.cells).flatten)
 len : qs.length = k
 each : ∀ q ∈ qs, CE (w.heap.size + 3) ((Value.slice A k c).ownBlock) W q
 bare : qs.map Pt.bare = (ps.take k).map Pt.bare
theorem CL.next {w W W1 : World} {d s : ByteArray} {n : Int} {ps : List Pt} {k : Nat} {A : Option Addr} {c : Nat} {qs : List Pt} (h : CL w W d s n ps k A c qs) (hb : Below W.heap.size W W1) : CL w W1 d s n ps k A c qs :=
 ⟨h.bel.trans (hb.mono h.bel.size), Nat.le_trans h.sz hb.size, h.res.below hb h.res.lt, h.cur.below hb h.cur.lt, row_stays h.own fun i hi => hb.block i (h.own.lt i hi).2, h.len, fun q hq => (h.each q hq).next hb, h.bare⟩
def P6 (b3 b5 : Nat) (sl : Value) (q : Pt) (W : World) : Prop := W.cell? ⟨b3, 3, none⟩ = some sl ∧ b3 < W.heap.size ∧ W.cell? ⟨b5, 0, none⟩ = some (.string q.dof) ∧ W.cell? ⟨b5, 1, none⟩ = some (.string q.name) ∧ W.cell? ⟨b5, 2, none⟩ = some (.int .i64 q.num) ∧ W.cell? ⟨b5, 3, none⟩ = some (.slice q.at_ q.args.length q.cap) ∧ b5 < W.heap.size
def PatCloned (p : Pt) (w : World) (e : Ending) (w' : World) : Prop := Below w.heap.size w w' ∧ ∃ q : Pt, e = .returned q.val ∧ q.In w'.heap.size w' ∧ q.From w.heap.size ∧ q.bare = p.bare
set_option maxRecDepth 100000 in
set_option maxHeartbeats 8000000 in
theorem clone_pat : ∀ (p : Pt) (w : World), p.In w.heap.size w → Calls Tryz.prog 48 #[p.val] w (PatCloned p w) := by
 refine Pt.induct fun d s n A c ps ih w hin => ?_
 obtain ⟨hds, hss, hnn, hpl, -, hprow, hpall⟩ := Pt.In_mk.1 hin
 have HPR := Lib.hid hprow
 have HPA := Lib.hid hpall
 have HIH := Lib.hid ih
 have HSZ := Lib.hid (And.intro hds (And.intro hss hnn))
 obtain ⟨i0, hi, hz0, hz1, hz2⟩ := info_parts infoPat
 have HC0 := Lib.hid (show CL w (((w.alloc (.cells #[.string d, .string s, .int .i64 n, .slice A ps.length c] 28)).alloc (.cells #[.string ⟨#[]⟩, .string ⟨#[]⟩, .int .i64 0, .slice none 0 0] 28)).alloc (.cells #[.string d, .string s, .int .i64 n, .slice none 0 0] 28)) d s n ps 0 none 0 [] from
  ⟨(((Below.refl w.heap.size w).alloc (Nat.le_refl _) _).alloc (by simp) _).alloc (by simp; omega) _, by simp, (Blk.new' _ _ _ (w.heap.size + 1) (by simp)).alloc _, Blk.new' _ _ _ (w.heap.size + 1 + 1) (by simp), World.ownsRow_nil _ _ _ _, rfl, fun q hq => (by cases hq), rfl⟩)
 clear hin hprow hpall ih
 unfold Pt.val
 simp only [Pt.dof, Pt.name, Pt.num, Pt.at_, Pt.cap, Pt.args]
 go_enter Tryz.func48, Tryz.ntmps48
 go_wp2_with fail
 generalize ((w.alloc (.cells #[.string d, .string s, .int .i64 n, .slice A ps.length c] 28)).alloc (.cells #[.string ⟨#[]⟩, .string ⟨#[]⟩, .int .i64 0, .slice none 0 0] 28)).alloc (.cells #[.string d, .string s, .int .i64 n, .slice none 0 0] 28) = w0 at HC0 ⊢
 go_loopw [11] (fun iv wr => ∃ (k : Nat) (A1 : Option Addr) (c1 : Nat) (qs : List Pt), iv = .int .i64 k ∧ k ≤ ps.length ∧ Hid (CL w wr d s n ps k A1 c1 qs)) (fun iv _ => ps.length - (intOf iv).toNat)
 case atStart => exact ⟨0, none, 0, [], rfl, Nat.zero_le _, HC0.out⟩
 case round =>
  obtain ⟨k, A1, c1, qs, rfl, hk, HC⟩ := hrel
  by_cases hlt : k < ps.length
  ·obtain ⟨q, b0, off, hq, hmem, rfl, hb, x0, x1, x2, x3⟩ := Pt.arg_at HPR.out HC.out.bel hlt
   have HQ := Lib.hid hq
   have HC1 := Lib.hid (HC.out.next ((Below.refl wr.heap.size wr).alloc (Nat.le_refl _) (.cells #[.string q.dof, .string q.name, .int .i64 q.num, .slice q.at_ q.args.length q.cap] 28)))
   have KQ := Lib.hid (Blk.new wr #[.string q.dof, .string q.name, .int .i64 q.num, .slice q.at_ q.args.length q.cap] 28)
   have HCALL := Lib.hid (fun (W : World) (hW : Below w.heap.size w W) => HIH.out q hmem W ((HPA.out q hmem).next hW))
   unfold PatCloned at HCALL
   unfold Pt.val at HCALL
   have hwz := HC.out.sz
   clear hq
   go_wp2_with fail
   clear x0 x1 x2 x3
   have HG := Lib.hid (show w.heap.size + 3 ≤ wr.heap.size from hwz)
   generalize wr.alloc (.cells #[.string q.dof, .string q.name, .int .i64 q.num, .slice q.at_ q.args.length q.cap] 28) = w1 at HC1 KQ ⊢
   have hbox : ∀ W, Below w1.heap.size w1 W → P6 (w.heap.size + 1 + 1) wr.heap.size (.slice A1 k c1) q W := fun W hW => by
    have k1 := HC1.out.cur.below hW HC1.out.cur.lt
    have k2 := KQ.out.below hW KQ.out.lt
    exact ⟨k1.cell 3, k1.lt, k2.cell 0, k2.cell 1, k2.cell 2, k2.cell 3, k2.lt⟩
   have HBOX := Lib.hid hbox
   clear hbox
   refine region_mix (P6 (w.heap.size + 1 + 1) wr.heap.size (.slice A1 k c1) q) [(0, true), (1, true), (2, true), (3, false), (4, false), (5, false), (6, false), (7, false)] 5 (by kernel_rfl) (by kernel_rfl) (HBOX.out _ (Below.refl _ _).drew) ?_
   simp only [pickM, List.filterMap_cons, List.getElem?_cons_zero, List.getElem?_cons_succ, List.filterMap_nil, Option.map_some]
   iterate 3
    refine wpMix_read ?_ (by rfl) (fun W hW => ?_) ?_
    rotate_left
    ·unfold P6 at hW
     go_simp
     try with_reducible rfl
    simp only [Act.put, List.setIfInBounds_toArray, List.set_cons_zero, List.set_cons_succ]
   refine wpMix_step rfl (fun K hK => ?_)
   go_simp
   refine Calls.mono (HCALL.out _ HC1.out.bel.drew) ?_
   rintro e w2 ⟨hb2, qn, rfl, hqi, hqf, hqb⟩
   have HB2 := Lib.hid ((Below.refl w1.heap.size w1).drew.trans hb2)
   have HQN := Lib.hid (show CE (w.heap.size + 3) ((Value.slice A1 k c1).ownBlock) w2 qn from ⟨w1.drew.heap.size, w2.heap.size, by have := HC1.out.sz; simpa using this, hqf, hqi, Nat.le_refl _, fun j hj => .inl (by have := (HC1.out.own.lt j hj).2; simpa using this)⟩)
   have HQB := Lib.hid hqb
   have HC2 := Lib.hid (HC1.out.next HB2.out)
   refine hK _ _ (fun _ => HBOX.out _ HB2.out) ?_
   clear hK K hb2 hqi hqf hqb
   refine wpMix_step rfl (fun K hK => ?_)
   go_simp
   have HB3 := Lib.hid ((Below.refl w2.heap.size w2).alloc (Nat.le_refl _) (.cells #[.string qn.dof, .string qn.name, .int .i64 qn.num, .slice qn.at_ qn.args.length qn.cap] 28))
   have HC3 := Lib.hid (HC2.out.next HB3.out)
   have HQN3 := Lib.hid (HQN.out.next HB3.out)
   have HNEW : Hid (∀ (j : Nat) (u : Value), qn.cells[j]? = some u → (w2.alloc (.cells #[.string qn.dof, .string qn.name, .int .i64 qn.num, .slice qn.at_ qn.args.length qn.cap] 28)).cell? ((⟨w2.heap.size, 0, none⟩ : Addr).add j) = some u) := Lib.hid (World.news_of_block (heap_alloc_new w2 _))
   refine hK _ _ (fun _ => HBOX.out _ (HB2.out.trans (HB3.out.mono HB2.out.size))) ?_
   clear hK K
   generalize w2.alloc (.cells #[.string qn.dof, .string qn.name, .int .i64 qn.num, .slice qn.at_ qn.args.length qn.cap] 28) = w3 at HB3 HC3 HQN3 HNEW ⊢
   refine wpMix_step rfl (fun K hK => ?_)
   refine wp_append_lies _ (.tmp 16) (.tmp 19) 26 rfl (w.heap.size + 3) 28 i0 _ 4 64 Tryz.underlying26 hi hz0 hz1 hz2 rfl (by decide) (.slice A1 k c1) k ((qs.map Pt.cells).flatten) (by simp [Act.eval, Act.put]) HC3.out.own ⟨w2.heap.size, 0, none⟩ 1 1 qn.cells (by simp [Act.eval, Act.put]) rfl HNEW.out (by simp [Value.oneCell', Pt.cells]) (by omega) (by unfold maxLen; omega) (by omega) HC3.out.sz _ rfl ?_
   intro g cap w4 hown hgrow hat hlt4
   have hcur := (hgrow.block _ HC3.out.cur.lt (fun e => by have := (HC3.out.own.lt _ e.symm).1; omega)).trans HC3.out.cur
   have hres := (hgrow.block _ HC3.out.res.lt (fun e => by have := (HC3.out.own.lt _ e.symm).1; omega)).trans HC3.out.res
   have hb4 := HC3.out.bel.grown hgrow HC3.out.bel.size (fun j hj => by have := (HC3.out.own.lt j hj).1; omega)
   have hgo : ∀ j, (Value.slice (some ⟨g, 0, none⟩) (k + 1) cap).ownBlock = some j → (Value.slice A1 k c1).ownBlock = some j ∨ w3.heap.size ≤ j := fun j hj => by
    simp only [Value.ownBlock, Option.some.injEq] at hj
    rcases hat with h | h
    ·left; rw [h, hj]
    ·right; omega
   have hbase : w.heap.size + 3 ≤ g := (hown.lt g rfl).1
   have HNX := Lib.hid (show CL w (w4.setCell ⟨w.heap.size + 1 + 1, 3, none⟩ (.slice (some ⟨g, 0, none⟩) (k + 1) cap)) d s n ps (k + 1) (some ⟨g, 0, none⟩) cap (qs ++ [qn]) from
    ⟨hb4.setCell (by simp only; omega) _, by have := hgrow.size; have := HC3.out.sz; simp [World.setCell]; omega, Blk.far hres (a := ⟨w.heap.size + 1 + 1, 3, none⟩) (by simp) _, (Blk.set hcur 3 _).cast rfl,
     by
      have := row_stays (w1 := w4.setCell ⟨w.heap.size + 1 + 1, 3, none⟩ (.slice (some ⟨g, 0, none⟩) (k + 1) cap)) hown fun i hi => Below.heap_setCell _ _ _ _ (show i ≠ w.heap.size + 1 + 1 by have := (hown.lt i hi).1; omega)
      rw [List.map_append, List.flatten_append]
      simpa using this,
     by rw [List.length_append, HC3.out.len]; rfl,
     fun q' hq' => by
      have hce : CE (w.heap.size + 3) ((Value.slice A1 k c1).ownBlock) w3 q' := by
       rcases List.mem_append.1 hq' with h | h
       ·exact HC3.out.each q' h
       ·simp only [List.mem_singleton] at h
        subst h
        exact HQN3.out
      exact ((hce.other hgo).grown' hgrow hgo hce).set (by omega) 3 _,
     by
      have e : ps.take (k + 1) = ps.take k ++ [q] := by rw [List.take_add_one, HQ.out]; rfl
      rw [e, List.map_append, List.map_append, HC3.out.bare, List.map_cons, List.map_cons, HQB.out]
      try rfl⟩)
   have HCUR := Lib.hid (show Blk w4 (w.heap.size + 1 + 1) _ _ from hcur)
   refine hK _ _ (fun h => absurd h (by decide)) ?_
   clear hK K hown hgrow hat hres hb4 hgo hbase hcur
   obtain ⟨u0, u1, u2, u3⟩ := HCUR.out.four
   have ul := HCUR.out.lt
   have u4 := HCUR.out.free 3
   refine wpMix_step rfl (fun K hK => ?_)
   go_simp
   refine hK _ _ (fun h => absurd h (by decide)) ?_
   clear hK K
   refine wpMix_step rfl (fun K hK => ?_)
   go_simp
   refine hK _ _ (fun h => absurd h (by decide)) ?_
   clear hK K
   refine wpMix_nil ?_
   refine NoPanic.normal ?_
   generalize w4.setCell ⟨w.heap.size + 1 + 1, 3, none⟩ (.slice (some ⟨g, 0, none⟩) (k + 1) cap) = w5 at HNX ⊢
   clear u0 u1 u2 u3 u4 ul
   go_wp2_with fail
   exact ⟨⟨k + 1, _, _, _, by go_num, by omega, HNX.out⟩, by simp [intOf]; omega⟩
  ·have hk2 : k = ps.length := by omega
   subst hk2
   obtain ⟨y0, y1, y2, y3⟩ := HC.out.cur.four
   have yl := HC.out.cur.lt
   obtain ⟨z0, z1, z2, z3⟩ := HC.out.res.four
   have zl := HC.out.res.lt
   have d0 := HC.out.res.free 0
   have d1 := HC.out.res.free 1
   have d2 := HC.out.res.free 2
   have d3 := HC.out.res.free 3
   go_wp2_with fail
   obtain ⟨hs6, hk6⟩ := four_set HC.out.res HC.out.bel (by omega) (.string d) (.string s) (.int .i64 n) (.slice A1 ps.length c1)
   have hown6 := row_stays (w1 := (((wr.setCell ⟨w.heap.size + 1, 0, none⟩ (.string d)).setCell ⟨w.heap.size + 1, 1, none⟩ (.string s)).setCell ⟨w.heap.size + 1, 2, none⟩ (.int .i64 n)).setCell ⟨w.heap.size + 1, 3, none⟩ (.slice A1 ps.length c1)) HC.out.own fun i hi => by
    have hne : i ≠ w.heap.size + 1 := by have := (HC.out.own.lt i hi).1; omega
    rw [Below.heap_setCell _ _ _ _ hne, Below.heap_setCell _ _ _ _ hne, Below.heap_setCell _ _ _ _ hne, Below.heap_setCell _ _ _ _ hne]
   have heach := fun q hq => ((((HC.out.each q hq).set (b := w.heap.size + 1) (by omega) 0 (.string d)).set (b := w.heap.size + 1) (by omega) 1 (.string s)).set (b := w.heap.size + 1) (by omega) 2 (.int .i64 n)).set (b := w.heap.size + 1) (by omega) 3 (.slice A1 ps.length c1)
   generalize (((wr.setCell ⟨w.heap.size + 1, 0, none⟩ (.string d)).setCell ⟨w.heap.size + 1, 1, none⟩ (.string s)).setCell ⟨w.heap.size + 1, 2, none⟩ (.int .i64 n)).setCell ⟨w.heap.size + 1, 3, none⟩ (.slice A1 ps.length c1) = w6 at hs6 hk6 hown6 heach ⊢
   obtain ⟨r0, r1, r2, r3⟩ := hk6.four
   have hlen := HC.out.len
   have hcap := own_cap hown6
   refine bodyPost_ret (v := (Pt.mk d s n A1 c1 qs).val) (by simp [results, Tryz.results48, go_sem, r0, r1, r2, r3, Pt.val, Pt.dof, Pt.name, Pt.num, Pt.at_, Pt.cap, Pt.args, hlen]) rfl ⟨hs6, _, rfl, ?_, ?_, ?_⟩
   ·refine Pt.In_mk.2 ⟨HSZ.out.1, HSZ.out.2.1, HSZ.out.2.2, by omega, ⟨by omega, hcap.2.1⟩, ?_, fun q hq => (heach q hq).out.1⟩
    have h9 := hown6
    rw [← hlen] at h9
    exact PatsO.row h9
   ·refine Pt.From_mk.2 ⟨fun hl => ?_, fun q hq => Pt.From.less (by omega) _ (heach q hq).out.2⟩
    have h9 := hown6
    obtain ⟨A9, c9, he, hpos⟩ := row_slice h9
    simp only [Value.slice.injEq] at he
    obtain ⟨rfl, -, rfl⟩ := he
    obtain ⟨g, rfl⟩ := hpos (by omega)
    exact ⟨g, 0, rfl, by have := (h9.lt g rfl).1; omega⟩
   ·have h9 := HC.out.bare
    rw [List.take_length] at h9
    rw [Pt.bare_mk, Pt.bare_mk, h9]
end Go.Proofs.YtjeggkfgdhepaaaGreatDoor

namespace Go.Proofs.YtjeggkfgdhepaaaGreatDoor
open Go.RowKit
open Go.Proofs
open Go.Maps
def zeroPat : Value := .agg #[.string emptyS, .string emptyS, .int .i64 0, .slice none 0 0]
def MissPost (l : List Dt) (t : Ty) (ps : List Pt) (w : World) (e : Ending) (w' : World) : Prop :=
 Below w.heap.size w w' ∧ ((askedErr l t ps ≠ 0 ∧ e = .returned (.tuple #[zeroPat, .int .i64 (askedErr l t ps)])) ∨
  (askedErr l t ps = 0 ∧ ¬Useful l [t] (oneCol ps) [anyPt] ∧ e = .returned (.tuple #[zeroPat, .int .i64 5])) ∨
  (askedErr l t ps = 0 ∧ Useful l [t] (oneCol ps) [anyPt] ∧ (e = .returned (.tuple #[zeroPat, .int .i64 4]) ∨ ∃ q : Pt, e = .returned (.tuple #[q.val, .int .i64 0]) ∧ q.In w'.heap.size w' ∧ Val l t q ∧ ∀ p ∈ ps, p.matchB q = false)))
theorem size_any {l : List Dt} {t : Ty} {ps : List Pt} (h : Asked l t ps) : sizeL [t] (oneCol ps) [anyPt] ≤ 100000 := by
 have h1 := rowsW_one ps
 have h2 := h.nodes
 have h3 : rowW [anyPt] = 0 := by unfold rowW; simp [anyPt_weight]
 unfold sizeL
 simp only [List.length_cons, List.length_nil]
 omega
def T3 (bt : Nat) (t : Ty) (W : World) : Prop := W.cell? ⟨bt, 0, none⟩ = some (.string t.dof) ∧ W.cell? ⟨bt, 1, none⟩ = some (.string t.name) ∧ W.cell? ⟨bt, 2, none⟩ = some (.slice t.at_ t.args.length t.cap) ∧ bt < W.heap.size
def MissMid (Z : Sk) (l : List Dt) (t : Ty) (ps : List Pt) (W : World) (e : Ending) (W' : World) : Prop :=
 Sm Z W W' ∧ ((e = .returned (.tuple #[.slice none 0 0, .bool false]) ∧ ¬Useful l [t] (oneCol ps) [anyPt]) ∨
  (Useful l [t] (oneCol ps) [anyPt] ∧ ∃ (b o c : Nat) (q : Pt), e = .returned (.tuple #[.slice (some ⟨b, o, none⟩) 1 c, .bool true]) ∧ Rw.In W'.heap.size W' ⟨some ⟨b, o, none⟩, c, [q]⟩ ∧ (Open_ Z W' → Val l t q ∧ ∀ p ∈ ps, p.matchB q = false)))
def MissCut (Z : Sk) (l : List Dt) (t : Ty) (ps : List Pt) (w0 : World) (ov kv : Value) (wx : World) : Prop := Below w0.heap.size w0 wx ∧ Blk wx (w0.heap.size + 1) #[.string ⟨#[]⟩, .string ⟨#[]⟩, .int .i64 0, .slice none 0 0] 28 ∧ (∃ f1, Blk wx Z.b (Z.cells f1) 90) ∧
 ((ov = .slice none 0 0 ∧ kv = .bool false ∧ ¬Useful l [t] (oneCol ps) [anyPt]) ∨ (kv = .bool true ∧ Useful l [t] (oneCol ps) [anyPt] ∧ ∃ (b o c : Nat) (q : Pt), ov = .slice (some ⟨b, o, none⟩) 1 c ∧ Rw.In wx.heap.size wx ⟨some ⟨b, o, none⟩, c, [q]⟩ ∧ (Open_ Z wx → Val l t q ∧ ∀ p ∈ ps, p.matchB q = false)))
theorem seek_miss (Z : Sk) (l : List Dt) (L : List (ByteArray × Value)) (hr : Right2 l L) (A : Option Addr) (t : Ty) (Ap : Option Addr) (ps : List Pt) (ha : Asked l t ps) (W : World) (hi : AskIn W A l t Ap ps) (hV : VEnv Z l L W) (B bt bp : Nat) (A9 : Option Addr) (c9 : Nat)
  (kt : Blk W bt #[.string t.dof, .string t.name, .slice t.at_ t.args.length t.cap] 25) (kp : Blk W bp #[.string ⟨#[97, 110, 121]⟩, .string ⟨#[]⟩, .int .i64 0, .slice none 0 0] 28) (ro : RowsO B W (.slice A9 ps.length c9) ps ps.length) :
  Calls Tryz.prog 44 #[.pointer (some ⟨Z.b, 0, none⟩), .slice (some ⟨bt, 0, none⟩) 1 1, .slice A9 ps.length c9, .slice (some ⟨bp, 0, none⟩) 1 1] W (MissMid Z l t ps W) := by
 have hl12 := ha.len
 refine Calls.mono (seek_col Z l L hr t ha.ty hi.tcap hi.caps ps anyPt (fun x hx => ⟨ha.pok x hx, hi.pcap x hx⟩) ⟨anyPt_ok l t, anyPt_cap⟩ ps.length rfl (by omega) (size_any ha) W hV hi.ty (fun x hx => hi.pts.each x hx) (any_in _ _) B bt bp A9 c9 kt kp ro) ?_
 rintro e W' ⟨hs, ⟨rfl, hno⟩ | ⟨hyes, A', c', out, rfl, hin, -, hem, hlen, hval⟩⟩
 ·exact ⟨hs, .inl ⟨rfl, hno⟩⟩
 ·obtain ⟨q, rfl⟩ := one_of hlen
  obtain ⟨b, o, rfl, -⟩ := hin.some
  refine ⟨hs, .inr ⟨hyes, b, o, c', q, rfl, hin, fun ho => ?_⟩⟩
  obtain ⟨h1, -, h3⟩ := hval ho
  refine ⟨vals_one.1 h1, fun p hp => ?_⟩
  have := h3 [p] (List.mem_map.2 ⟨p, hp, rfl⟩)
  simpa [matchAll] using this
set_option maxRecDepth 100000 in
set_option maxHeartbeats 16000000 in
theorem missing_any (A : Option Addr) (l : List Dt) (c : Nat) (t : Ty) (Ap : Option Addr) (ps : List Pt) (cp : Nat) (w : World) (h : AskIn w A l t Ap ps) :
  Calls Tryz.prog 14 #[.slice A l.length c, t.val, .slice Ap ps.length cp] w (MissPost l t ps w) := by
 have H := Lib.hid h
 have HAQ := Lib.hid (asked_iff (l := l) (t := t) h.count)
 have HASK := Lib.hid (fun (W : World) (hW : Below w.heap.size w W) => asked_any (SkOk l w.heap.size) A l c t Ap ps cp W (fun h0 W1 bD bC bE hb1 h1 _ _ => newSeeker_of (HAQ.out.1 h0).right ((H.out.next hW).next hb1).dts ((H.out.next hW).next hb1).dlen (Nat.le_trans hW.size hb1.size) bD bC bE h1) (h.env.next hW) (h.dts.next hW) (h.ty.at_ hW hW.size) (h.pts.at_ hW hW.size))
 clear h
 have HB0 := Lib.hid (((Below.refl w.heap.size w).alloc (Nat.le_refl _) (.cells #[.string t.dof, .string t.name, .slice t.at_ t.args.length t.cap] 25)).alloc (by simp) (.cells #[.string ⟨#[]⟩, .string ⟨#[]⟩, .int .i64 0, .slice none 0 0] 28))
 have K0 := Lib.hid ((Blk.new w #[.string t.dof, .string t.name, .slice t.at_ t.args.length t.cap] 25).alloc (.cells #[.string ⟨#[]⟩, .string ⟨#[]⟩, .int .i64 0, .slice none 0 0] 28))
 have KR := Lib.hid (Blk.new' (w.alloc (.cells #[.string t.dof, .string t.name, .slice t.at_ t.args.length t.cap] 25)) #[.string ⟨#[]⟩, .string ⟨#[]⟩, .int .i64 0, .slice none 0 0] 28 (w.heap.size + 1) (by simp))
 unfold Ty.val at *
 go_enter Tryz.func14, Tryz.ntmps14
 go_wp2_with fail
 generalize (w.alloc (.cells #[.string t.dof, .string t.name, .slice t.at_ t.args.length t.cap] 25)).alloc (.cells #[.string ⟨#[]⟩, .string ⟨#[]⟩, .int .i64 0, .slice none 0 0] 28) = w0 at HB0 K0 KR ⊢
 refine Calls.mono (HASK.out _ HB0.out) ?_
 rintro e w1 ⟨hb1, ⟨h0, v1, rfl, Z, L, rfl, hZb, hska, hr2, hop⟩ | ⟨hne, rfl⟩⟩
 case inr =>
  have HB1 := Lib.hid (HB0.out.trans (hb1.mono HB0.out.size))
  have KR1 := Lib.hid (KR.out.below hb1 KR.out.lt)
  have HNE := Lib.hid hne
  have hne2 : (askedErr l t ps == 0) = false := by simpa using hne
  have hne3 : (askedErr l t ps != 0) = true := by simpa using hne
  obtain ⟨er, hq⟩ : ∃ er, askedErr l t ps = er := ⟨_, rfl⟩
  rw [hq] at hne2 hne3
  rw [hq]
  have HQ := Lib.hid hq
  obtain ⟨r0, r1, r2, r3⟩ := KR1.out.four
  have rl := KR1.out.lt
  have d0 := KR1.out.free 0
  have d1 := KR1.out.free 1
  have d2 := KR1.out.free 2
  have d3 := KR1.out.free 3
  clear hb1 hne hq
  go_wp2_with fail
  obtain ⟨hs9, hk9⟩ := four_set KR1.out HB1.out (by omega) (.string ⟨#[]⟩) (.string ⟨#[]⟩) (.int .i64 0) (.slice none 0 0)
  generalize (((w1.setCell ⟨w.heap.size + 1, 0, none⟩ (.string ⟨#[]⟩)).setCell ⟨w.heap.size + 1, 1, none⟩ (.string ⟨#[]⟩)).setCell ⟨w.heap.size + 1, 2, none⟩ (.int .i64 0)).setCell ⟨w.heap.size + 1, 3, none⟩ (.slice none 0 0) = w9 at hs9 hk9 ⊢
  obtain ⟨r0, r1, r2, r3⟩ := hk9.four
  exact bodyPost_ret (v := .tuple #[zeroPat, .int .i64 er]) (by simp [results, Tryz.results14, go_sem, r0, r1, r2, r3, zeroPat, emptyS]) rfl ⟨hs9, .inl ⟨by rw [HQ.out]; exact (by rw [HQ.out] at HNE; exact HNE.out), by rw [HQ.out]⟩⟩
 have HASKED := Lib.hid (HAQ.out.1 h0)
 have HZERO := Lib.hid h0
 have hl12 := HASKED.out.len
 have HB1 := Lib.hid (HB0.out.trans (hb1.mono HB0.out.size))
 have K1 := Lib.hid (K0.out.below hb1 K0.out.lt)
 have KR1 := Lib.hid (KR.out.below hb1 KR.out.lt)
 have HV1 := Lib.hid (show VEnv Z l L w1 from ⟨hska, fun d hd => ⟨(H.out.next HB1.out).dts.each d hd, H.out.dlen d hd⟩⟩)
 have HZB := Lib.hid hZb
 have HR2 := Lib.hid hr2
 clear hb1 hska hr2 hZb h0 hop
 have HSF := Lib.hid (fun W (hW : Below w1.heap.size w1 W) => (show T3 w.heap.size t W from by
  have k1 := K1.out.below hW K1.out.lt
  exact ⟨k1.cell 0, k1.cell 1, k1.cell 2, k1.lt⟩))
 have HZ0 := Lib.hid (Below.refl w1.heap.size w1)
 have HROWS := Lib.hid (fun (W : World) (hW : Below w.heap.size w W) => rows_any Ap ps cp W (by omega) ((H.out.next hW).pts.row) (fun q hq => (H.out.next hW).pts.each q hq))
 have HSEEK := Lib.hid (fun (W : World) (bt bp : Nat) (A9 : Option Addr) (c9 : Nat) (hW : Below w.heap.size w W) (hV : VEnv Z l L W) (kt : Blk W bt #[.string t.dof, .string t.name, .slice t.at_ t.args.length t.cap] 25) (kp : Blk W bp #[.string ⟨#[97, 110, 121]⟩, .string ⟨#[]⟩, .int .i64 0, .slice none 0 0] 28) (ro : RowsO w.heap.size W (.slice A9 ps.length c9) ps ps.length) =>
  seek_miss Z l L HR2.out A t Ap ps HASKED.out W (H.out.next hW) hV w.heap.size bt bp A9 c9 kt kp ro)
 unfold MissMid at HSEEK
 unfold Sk.val
 go_upto_region 4 with (fail)
 go_cut [10, 11] (fun ov kv wx => Hid (MissCut Z l t ps w ov kv wx))
 case first =>
  refine region_ord (T3 w.heap.size t) (.read 0 (.read 1 (.read 3 (.read 5 (.three 2 (.two 4 (.one 6 (.one 7 (.read 8 (.read 9 (.read 10 (.one 11 (.one 12 .done))))))) 6 (.one 4 (.one 7 (.read 8 (.read 9 (.read 10 (.one 11 (.one 12 .done)))))))) 4 (.two 2 (.one 6 (.one 7 (.read 8 (.read 9 (.read 10 (.one 11 (.one 12 .done))))))) 6 (.one 2 (.one 7 (.read 8 (.read 9 (.read 10 (.one 11 (.one 12 .done)))))))) 6 (.two 2 (.one 4 (.one 7 (.read 8 (.read 9 (.read 10 (.one 11 (.one 12 .done))))))) 4 (.one 2 (.one 7 (.read 8 (.read 9 (.read 10 (.one 11 (.one 12 .done))))))))))))) (by kernel_rfl) (by kernel_rfl) (HSF.out _ HZ0.out.drew) ?_
  iterate 4
   refine wpOrd_read _ ?_ rfl (by rfl) (fun W hW => ?_) ?_
   rotate_left
   ·unfold T3 at hW
    go_simp
    try with_reducible rfl
   simp only [Act.put, List.setIfInBounds_toArray, List.set_cons_zero, List.set_cons_succ]
  refine ⟨?_, ?_, ?_⟩
  ·refine stepAt_of _ rfl rfl (fun K hK => ?_)
   go_simp
   have KT := Lib.hid (show Blk ((w1.alloc (.cells #[.string t.dof, .string t.name, .slice t.at_ t.args.length t.cap] 25)).drew) w1.heap.size #[.string t.dof, .string t.name, .slice t.at_ t.args.length t.cap] 25 from Blk.new w1 _ _)
   have HS1 := Lib.hid (show Below w1.heap.size w1 ((w1.alloc (.cells #[.string t.dof, .string t.name, .slice t.at_ t.args.length t.cap] 25)).drew) from ((Below.refl _ _).alloc (Nat.le_refl _) _).drew)
   have HZ1 := Lib.hid (HZ0.out.trans (HS1.out.mono HZ0.out.size))
   refine hK _ _ ⟨HSF.out _ HZ1.out, ?_⟩
   clear hK K
   generalize ((w1.alloc (.cells #[.string t.dof, .string t.name, .slice t.at_ t.args.length t.cap] 25)).drew) = wx1 at KT HS1 HZ1 ⊢
   refine wpOrd_two ?_ ?_
   ·refine stepAt_of _ rfl rfl (fun K hK => ?_)
    go_simp
    have HD := Lib.hid (show Below w.heap.size w wx1 from (HB1.out.trans (HZ1.out.mono HB1.out.size)))
    refine Calls.mono (HROWS.out _ HD.out) ?_
    rintro e wx2 ⟨hb9, v9, rfl, hro⟩
    obtain ⟨rs9, A9, c9, hr1, rfl, hr2, hr3⟩ := hro
    have RO : Hid (RowsO w.heap.size wx2 (.slice A9 ps.length c9) ps ps.length) := Lib.hid ⟨rs9, A9, c9, hr1, rfl, own_wide hr2 HD.out.size, hr3⟩
    have HS2 := Lib.hid (show Below wx1.heap.size wx1 wx2 from hb9)
    have KT := Lib.hid (KT.out.below HS2.out KT.out.lt)
    have HZ2 := Lib.hid (HZ1.out.trans (HS2.out.mono HZ1.out.size))
    refine hK _ _ ⟨HSF.out _ HZ2.out, ?_⟩
    clear hK K hb9 hr1 hr2 hr3
    refine wpOrd_one ?_
    refine stepAt_of _ rfl rfl (fun K hK => ?_)
    go_simp
    have KP := Lib.hid (show Blk (wx2.alloc (.cells #[.string ⟨#[97, 110, 121]⟩, .string ⟨#[]⟩, .int .i64 0, .slice none 0 0] 28)) wx2.heap.size #[.string ⟨#[97, 110, 121]⟩, .string ⟨#[]⟩, .int .i64 0, .slice none 0 0] 28 from Blk.new wx2 _ _)
    have HS3 := Lib.hid (show Below wx2.heap.size wx2 (wx2.alloc (.cells #[.string ⟨#[97, 110, 121]⟩, .string ⟨#[]⟩, .int .i64 0, .slice none 0 0] 28)) from ((Below.refl _ _).alloc (Nat.le_refl _) _))
    have KT := Lib.hid (KT.out.below HS3.out KT.out.lt)
    have RO := Lib.hid (RO.out.keep HS3.out)
    have HZ3 := Lib.hid (HZ2.out.trans (HS3.out.mono HZ2.out.size))
    refine hK _ _ ⟨HSF.out _ HZ3.out, ?_⟩
    clear hK K
    generalize (wx2.alloc (.cells #[.string ⟨#[97, 110, 121]⟩, .string ⟨#[]⟩, .int .i64 0, .slice none 0 0] 28)) = wx3 at KT RO KP HS3 HZ3 ⊢
    refine wpOrd_one ?_
    refine stepAt_of _ rfl rfl (fun K hK => ?_)
    go_simp
    refine Calls.mono (HSEEK.out _ _ _ _ _ (HB1.out.trans (HZ3.out.mono HB1.out.size)) (HV1.out.next HZ3.out) KT.out KP.out RO.out) ?_
    rintro e wz ⟨hsz, hmid⟩
    have HSZ := Lib.hid hsz
    have HPZ := Lib.hid (show T3 w.heap.size t wz from by
     have k1 := hsz.blk (K1.out.below HZ3.out K1.out.lt) (by decide)
     exact ⟨k1.cell 0, k1.cell 1, k1.cell 2, k1.lt⟩)
    have KRZ := Lib.hid (hsz.blk (KR1.out.below HZ3.out KR1.out.lt) (by decide))
    have HBZ := Lib.hid ((HB1.out.trans (HZ3.out.mono HB1.out.size)).trans (HSZ.out.below (by have := HB1.out.size; have := HZ3.out.size; omega) HZB.out))
    have HFL := Lib.hid (show ∃ f1, Blk wz Z.b (Z.cells f1) 90 from by
     obtain ⟨f0, f1, -, hf1, -⟩ := hsz.flag
     exact ⟨f1, hf1⟩)
    rcases hmid with ⟨rfl, hno⟩ | ⟨hyes, b, o, c', q, rfl, hin, hval⟩
    ·have HNO := Lib.hid hno
     clear hno
     refine hK _ _ ⟨HPZ.out, ?_⟩
     clear hK K hsz
     iterate 3
      refine wpOrd_read _ ?_ rfl (by rfl) (fun W hW => ?_) ?_
      rotate_left
      ·unfold T3 at hW
       go_simp
       try with_reducible rfl
      simp only [Act.put, List.setIfInBounds_toArray, List.set_cons_zero, List.set_cons_succ]
     iterate 2
      refine wpOrd_one ?_
      refine stepAt_of _ rfl rfl (fun K hK => ?_)
      go_simp
      refine hK _ _ ⟨HPZ.out, ?_⟩
      clear hK K
     refine wpOrd_done ?_
     refine NoPanic.normal ?_
     go_wp2_with fail
     go_meet
     exact Lib.hid ⟨HBZ.out, KRZ.out, HFL.out, .inl ⟨rfl, rfl, HNO.out⟩⟩
    ·have HYES := Lib.hid hyes
     have HIN := Lib.hid hin
     have HVAL := Lib.hid hval
     clear hyes hin hval
     refine hK _ _ ⟨HPZ.out, ?_⟩
     clear hK K hsz
     iterate 3
      refine wpOrd_read _ ?_ rfl (by rfl) (fun W hW => ?_) ?_
      rotate_left
      ·unfold T3 at hW
       go_simp
       try with_reducible rfl
      simp only [Act.put, List.setIfInBounds_toArray, List.set_cons_zero, List.set_cons_succ]
     iterate 2
      refine wpOrd_one ?_
      refine stepAt_of _ rfl rfl (fun K hK => ?_)
      go_simp
      refine hK _ _ ⟨HPZ.out, ?_⟩
      clear hK K
     refine wpOrd_done ?_
     refine NoPanic.normal ?_
     go_wp2_with fail
     go_meet
     exact Lib.hid ⟨HBZ.out, KRZ.out, HFL.out, .inr ⟨rfl, HYES.out, b, o, c', q, rfl, HIN.out, HVAL.out⟩⟩
   ·refine stepAt_of _ rfl rfl (fun K hK => ?_)
    go_simp
    have KP := Lib.hid (show Blk (wx1.alloc (.cells #[.string ⟨#[97, 110, 121]⟩, .string ⟨#[]⟩, .int .i64 0, .slice none 0 0] 28)) wx1.heap.size #[.string ⟨#[97, 110, 121]⟩, .string ⟨#[]⟩, .int .i64 0, .slice none 0 0] 28 from Blk.new wx1 _ _)
    have HS2 := Lib.hid (show Below wx1.heap.size wx1 (wx1.alloc (.cells #[.string ⟨#[97, 110, 121]⟩, .string ⟨#[]⟩, .int .i64 0, .slice none 0 0] 28)) from ((Below.refl _ _).alloc (Nat.le_refl _) _))
    have KT := Lib.hid (KT.out.below HS2.out KT.out.lt)
    have HZ2 := Lib.hid (HZ1.out.trans (HS2.out.mono HZ1.out.size))
    refine hK _ _ ⟨HSF.out _ HZ2.out, ?_⟩
    clear hK K
    generalize (wx1.alloc (.cells #[.string ⟨#[97, 110, 121]⟩, .string ⟨#[]⟩, .int .i64 0, .slice none 0 0] 28)) = wx2 at KT KP HS2 HZ2 ⊢
    refine wpOrd_one ?_
    refine stepAt_of _ rfl rfl (fun K hK => ?_)
    go_simp
    have HD := Lib.hid (show Below w.heap.size w wx2 from (HB1.out.trans (HZ2.out.mono HB1.out.size)))
    refine Calls.mono (HROWS.out _ HD.out) ?_
    rintro e wx3 ⟨hb9, v9, rfl, hro⟩
    obtain ⟨rs9, A9, c9, hr1, rfl, hr2, hr3⟩ := hro
    have RO : Hid (RowsO w.heap.size wx3 (.slice A9 ps.length c9) ps ps.length) := Lib.hid ⟨rs9, A9, c9, hr1, rfl, own_wide hr2 HD.out.size, hr3⟩
    have HS3 := Lib.hid (show Below wx2.heap.size wx2 wx3 from hb9)
    have KT := Lib.hid (KT.out.below HS3.out KT.out.lt)
    have KP := Lib.hid (KP.out.below HS3.out KP.out.lt)
    have HZ3 := Lib.hid (HZ2.out.trans (HS3.out.mono HZ2.out.size))
    refine hK _ _ ⟨HSF.out _ HZ3.out, ?_⟩
    clear hK K hb9 hr1 hr2 hr3
    refine wpOrd_one ?_
    refine stepAt_of _ rfl rfl (fun K hK => ?_)
    go_simp
    refine Calls.mono (HSEEK.out _ _ _ _ _ (HB1.out.trans (HZ3.out.mono HB1.out.size)) (HV1.out.next HZ3.out) KT.out KP.out RO.out) ?_
    rintro e wz ⟨hsz, hmid⟩
    have HSZ := Lib.hid hsz
    have HPZ := Lib.hid (show T3 w.heap.size t wz from by
     have k1 := hsz.blk (K1.out.below HZ3.out K1.out.lt) (by decide)
     exact ⟨k1.cell 0, k1.cell 1, k1.cell 2, k1.lt⟩)
    have KRZ := Lib.hid (hsz.blk (KR1.out.below HZ3.out KR1.out.lt) (by decide))
    have HBZ := Lib.hid ((HB1.out.trans (HZ3.out.mono HB1.out.size)).trans (HSZ.out.below (by have := HB1.out.size; have := HZ3.out.size; omega) HZB.out))
    have HFL := Lib.hid (show ∃ f1, Blk wz Z.b (Z.cells f1) 90 from by
     obtain ⟨f0, f1, -, hf1, -⟩ := hsz.flag
     exact ⟨f1, hf1⟩)
    rcases hmid with ⟨rfl, hno⟩ | ⟨hyes, b, o, c', q, rfl, hin, hval⟩
    ·have HNO := Lib.hid hno
     clear hno
     refine hK _ _ ⟨HPZ.out, ?_⟩
     clear hK K hsz
     iterate 3
      refine wpOrd_read _ ?_ rfl (by rfl) (fun W hW => ?_) ?_
      rotate_left
      ·unfold T3 at hW
       go_simp
       try with_reducible rfl
      simp only [Act.put, List.setIfInBounds_toArray, List.set_cons_zero, List.set_cons_succ]
     iterate 2
      refine wpOrd_one ?_
      refine stepAt_of _ rfl rfl (fun K hK => ?_)
      go_simp
      refine hK _ _ ⟨HPZ.out, ?_⟩
      clear hK K
     refine wpOrd_done ?_
     refine NoPanic.normal ?_
     go_wp2_with fail
     go_meet
     exact Lib.hid ⟨HBZ.out, KRZ.out, HFL.out, .inl ⟨rfl, rfl, HNO.out⟩⟩
    ·have HYES := Lib.hid hyes
     have HIN := Lib.hid hin
     have HVAL := Lib.hid hval
     clear hyes hin hval
     refine hK _ _ ⟨HPZ.out, ?_⟩
     clear hK K hsz
     iterate 3
      refine wpOrd_read _ ?_ rfl (by rfl) (fun W hW => ?_) ?_
      rotate_left
      ·unfold T3 at hW
       go_simp
       try with_reducible rfl
      simp only [Act.put, List.setIfInBounds_toArray, List.set_cons_zero, List.set_cons_succ]
     iterate 2
      refine wpOrd_one ?_
      refine stepAt_of _ rfl rfl (fun K hK => ?_)
      go_simp
      refine hK _ _ ⟨HPZ.out, ?_⟩
      clear hK K
     refine wpOrd_done ?_
     refine NoPanic.normal ?_
     go_wp2_with fail
     go_meet
     exact Lib.hid ⟨HBZ.out, KRZ.out, HFL.out, .inr ⟨rfl, HYES.out, b, o, c', q, rfl, HIN.out, HVAL.out⟩⟩
  ·refine stepAt_of _ rfl rfl (fun K hK => ?_)
   go_simp
   have HD := Lib.hid (show Below w.heap.size w w1.drew from (HB1.out.trans (HZ0.out.mono HB1.out.size)).drew)
   refine Calls.mono (HROWS.out _ HD.out) ?_
   rintro e wx1 ⟨hb9, v9, rfl, hro⟩
   obtain ⟨rs9, A9, c9, hr1, rfl, hr2, hr3⟩ := hro
   have RO : Hid (RowsO w.heap.size wx1 (.slice A9 ps.length c9) ps ps.length) := Lib.hid ⟨rs9, A9, c9, hr1, rfl, own_wide hr2 HD.out.size, hr3⟩
   have HS1 := Lib.hid (show Below w1.heap.size w1 wx1 from (Below.refl _ _).drew.trans hb9)
   have HZ1 := Lib.hid (HZ0.out.trans (HS1.out.mono HZ0.out.size))
   refine hK _ _ ⟨HSF.out _ HZ1.out, ?_⟩
   clear hK K hb9 hr1 hr2 hr3
   refine wpOrd_two ?_ ?_
   ·refine stepAt_of _ rfl rfl (fun K hK => ?_)
    go_simp
    have KT := Lib.hid (show Blk (wx1.alloc (.cells #[.string t.dof, .string t.name, .slice t.at_ t.args.length t.cap] 25)) wx1.heap.size #[.string t.dof, .string t.name, .slice t.at_ t.args.length t.cap] 25 from Blk.new wx1 _ _)
    have HS2 := Lib.hid (show Below wx1.heap.size wx1 (wx1.alloc (.cells #[.string t.dof, .string t.name, .slice t.at_ t.args.length t.cap] 25)) from ((Below.refl _ _).alloc (Nat.le_refl _) _))
    have RO := Lib.hid (RO.out.keep HS2.out)
    have HZ2 := Lib.hid (HZ1.out.trans (HS2.out.mono HZ1.out.size))
    refine hK _ _ ⟨HSF.out _ HZ2.out, ?_⟩
    clear hK K
    generalize (wx1.alloc (.cells #[.string t.dof, .string t.name, .slice t.at_ t.args.length t.cap] 25)) = wx2 at RO KT HS2 HZ2 ⊢
    refine wpOrd_one ?_
    refine stepAt_of _ rfl rfl (fun K hK => ?_)
    go_simp
    have KP := Lib.hid (show Blk (wx2.alloc (.cells #[.string ⟨#[97, 110, 121]⟩, .string ⟨#[]⟩, .int .i64 0, .slice none 0 0] 28)) wx2.heap.size #[.string ⟨#[97, 110, 121]⟩, .string ⟨#[]⟩, .int .i64 0, .slice none 0 0] 28 from Blk.new wx2 _ _)
    have HS3 := Lib.hid (show Below wx2.heap.size wx2 (wx2.alloc (.cells #[.string ⟨#[97, 110, 121]⟩, .string ⟨#[]⟩, .int .i64 0, .slice none 0 0] 28)) from ((Below.refl _ _).alloc (Nat.le_refl _) _))
    have RO := Lib.hid (RO.out.keep HS3.out)
    have KT := Lib.hid (KT.out.below HS3.out KT.out.lt)
    have HZ3 := Lib.hid (HZ2.out.trans (HS3.out.mono HZ2.out.size))
    refine hK _ _ ⟨HSF.out _ HZ3.out, ?_⟩
    clear hK K
    generalize (wx2.alloc (.cells #[.string ⟨#[97, 110, 121]⟩, .string ⟨#[]⟩, .int .i64 0, .slice none 0 0] 28)) = wx3 at RO KT KP HS3 HZ3 ⊢
    refine wpOrd_one ?_
    refine stepAt_of _ rfl rfl (fun K hK => ?_)
    go_simp
    refine Calls.mono (HSEEK.out _ _ _ _ _ (HB1.out.trans (HZ3.out.mono HB1.out.size)) (HV1.out.next HZ3.out) KT.out KP.out RO.out) ?_
    rintro e wz ⟨hsz, hmid⟩
    have HSZ := Lib.hid hsz
    have HPZ := Lib.hid (show T3 w.heap.size t wz from by
     have k1 := hsz.blk (K1.out.below HZ3.out K1.out.lt) (by decide)
     exact ⟨k1.cell 0, k1.cell 1, k1.cell 2, k1.lt⟩)
    have KRZ := Lib.hid (hsz.blk (KR1.out.below HZ3.out KR1.out.lt) (by decide))
    have HBZ := Lib.hid ((HB1.out.trans (HZ3.out.mono HB1.out.size)).trans (HSZ.out.below (by have := HB1.out.size; have := HZ3.out.size; omega) HZB.out))
    have HFL := Lib.hid (show ∃ f1, Blk wz Z.b (Z.cells f1) 90 from by
     obtain ⟨f0, f1, -, hf1, -⟩ := hsz.flag
     exact ⟨f1, hf1⟩)
    rcases hmid with ⟨rfl, hno⟩ | ⟨hyes, b, o, c', q, rfl, hin, hval⟩
    ·have HNO := Lib.hid hno
     clear hno
     refine hK _ _ ⟨HPZ.out, ?_⟩
     clear hK K hsz
     iterate 3
      refine wpOrd_read _ ?_ rfl (by rfl) (fun W hW => ?_) ?_
      rotate_left
      ·unfold T3 at hW
       go_simp
       try with_reducible rfl
      simp only [Act.put, List.setIfInBounds_toArray, List.set_cons_zero, List.set_cons_succ]
     iterate 2
      refine wpOrd_one ?_
      refine stepAt_of _ rfl rfl (fun K hK => ?_)
      go_simp
      refine hK _ _ ⟨HPZ.out, ?_⟩
      clear hK K
     refine wpOrd_done ?_
     refine NoPanic.normal ?_
     go_wp2_with fail
     go_meet
     exact Lib.hid ⟨HBZ.out, KRZ.out, HFL.out, .inl ⟨rfl, rfl, HNO.out⟩⟩
    ·have HYES := Lib.hid hyes
     have HIN := Lib.hid hin
     have HVAL := Lib.hid hval
     clear hyes hin hval
     refine hK _ _ ⟨HPZ.out, ?_⟩
     clear hK K hsz
     iterate 3
      refine wpOrd_read _ ?_ rfl (by rfl) (fun W hW => ?_) ?_
      rotate_left
      ·unfold T3 at hW
       go_simp
       try with_reducible rfl
      simp only [Act.put, List.setIfInBounds_toArray, List.set_cons_zero, List.set_cons_succ]
     iterate 2
      refine wpOrd_one ?_
      refine stepAt_of _ rfl rfl (fun K hK => ?_)
      go_simp
      refine hK _ _ ⟨HPZ.out, ?_⟩
      clear hK K
     refine wpOrd_done ?_
     refine NoPanic.normal ?_
     go_wp2_with fail
     go_meet
     exact Lib.hid ⟨HBZ.out, KRZ.out, HFL.out, .inr ⟨rfl, HYES.out, b, o, c', q, rfl, HIN.out, HVAL.out⟩⟩
   ·refine stepAt_of _ rfl rfl (fun K hK => ?_)
    go_simp
    have KP := Lib.hid (show Blk (wx1.alloc (.cells #[.string ⟨#[97, 110, 121]⟩, .string ⟨#[]⟩, .int .i64 0, .slice none 0 0] 28)) wx1.heap.size #[.string ⟨#[97, 110, 121]⟩, .string ⟨#[]⟩, .int .i64 0, .slice none 0 0] 28 from Blk.new wx1 _ _)
    have HS2 := Lib.hid (show Below wx1.heap.size wx1 (wx1.alloc (.cells #[.string ⟨#[97, 110, 121]⟩, .string ⟨#[]⟩, .int .i64 0, .slice none 0 0] 28)) from ((Below.refl _ _).alloc (Nat.le_refl _) _))
    have RO := Lib.hid (RO.out.keep HS2.out)
    have HZ2 := Lib.hid (HZ1.out.trans (HS2.out.mono HZ1.out.size))
    refine hK _ _ ⟨HSF.out _ HZ2.out, ?_⟩
    clear hK K
    generalize (wx1.alloc (.cells #[.string ⟨#[97, 110, 121]⟩, .string ⟨#[]⟩, .int .i64 0, .slice none 0 0] 28)) = wx2 at RO KP HS2 HZ2 ⊢
    refine wpOrd_one ?_
    refine stepAt_of _ rfl rfl (fun K hK => ?_)
    go_simp
    have KT := Lib.hid (show Blk (wx2.alloc (.cells #[.string t.dof, .string t.name, .slice t.at_ t.args.length t.cap] 25)) wx2.heap.size #[.string t.dof, .string t.name, .slice t.at_ t.args.length t.cap] 25 from Blk.new wx2 _ _)
    have HS3 := Lib.hid (show Below wx2.heap.size wx2 (wx2.alloc (.cells #[.string t.dof, .string t.name, .slice t.at_ t.args.length t.cap] 25)) from ((Below.refl _ _).alloc (Nat.le_refl _) _))
    have RO := Lib.hid (RO.out.keep HS3.out)
    have KP := Lib.hid (KP.out.below HS3.out KP.out.lt)
    have HZ3 := Lib.hid (HZ2.out.trans (HS3.out.mono HZ2.out.size))
    refine hK _ _ ⟨HSF.out _ HZ3.out, ?_⟩
    clear hK K
    generalize (wx2.alloc (.cells #[.string t.dof, .string t.name, .slice t.at_ t.args.length t.cap] 25)) = wx3 at RO KP KT HS3 HZ3 ⊢
    refine wpOrd_one ?_
    refine stepAt_of _ rfl rfl (fun K hK => ?_)
    go_simp
    refine Calls.mono (HSEEK.out _ _ _ _ _ (HB1.out.trans (HZ3.out.mono HB1.out.size)) (HV1.out.next HZ3.out) KT.out KP.out RO.out) ?_
    rintro e wz ⟨hsz, hmid⟩
    have HSZ := Lib.hid hsz
    have HPZ := Lib.hid (show T3 w.heap.size t wz from by
     have k1 := hsz.blk (K1.out.below HZ3.out K1.out.lt) (by decide)
     exact ⟨k1.cell 0, k1.cell 1, k1.cell 2, k1.lt⟩)
    have KRZ := Lib.hid (hsz.blk (KR1.out.below HZ3.out KR1.out.lt) (by decide))
    have HBZ := Lib.hid ((HB1.out.trans (HZ3.out.mono HB1.out.size)).trans (HSZ.out.below (by have := HB1.out.size; have := HZ3.out.size; omega) HZB.out))
    have HFL := Lib.hid (show ∃ f1, Blk wz Z.b (Z.cells f1) 90 from by
     obtain ⟨f0, f1, -, hf1, -⟩ := hsz.flag
     exact ⟨f1, hf1⟩)
    rcases hmid with ⟨rfl, hno⟩ | ⟨hyes, b, o, c', q, rfl, hin, hval⟩
    ·have HNO := Lib.hid hno
     clear hno
     refine hK _ _ ⟨HPZ.out, ?_⟩
     clear hK K hsz
     iterate 3
      refine wpOrd_read _ ?_ rfl (by rfl) (fun W hW => ?_) ?_
      rotate_left
      ·unfold T3 at hW
       go_simp
       try with_reducible rfl
      simp only [Act.put, List.setIfInBounds_toArray, List.set_cons_zero, List.set_cons_succ]
     iterate 2
      refine wpOrd_one ?_
      refine stepAt_of _ rfl rfl (fun K hK => ?_)
      go_simp
      refine hK _ _ ⟨HPZ.out, ?_⟩
      clear hK K
     refine wpOrd_done ?_
     refine NoPanic.normal ?_
     go_wp2_with fail
     go_meet
     exact Lib.hid ⟨HBZ.out, KRZ.out, HFL.out, .inl ⟨rfl, rfl, HNO.out⟩⟩
    ·have HYES := Lib.hid hyes
     have HIN := Lib.hid hin
     have HVAL := Lib.hid hval
     clear hyes hin hval
     refine hK _ _ ⟨HPZ.out, ?_⟩
     clear hK K hsz
     iterate 3
      refine wpOrd_read _ ?_ rfl (by rfl) (fun W hW => ?_) ?_
      rotate_left
      ·unfold T3 at hW
       go_simp
       try with_reducible rfl
      simp only [Act.put, List.setIfInBounds_toArray, List.set_cons_zero, List.set_cons_succ]
     iterate 2
      refine wpOrd_one ?_
      refine stepAt_of _ rfl rfl (fun K hK => ?_)
      go_simp
      refine hK _ _ ⟨HPZ.out, ?_⟩
      clear hK K
     refine wpOrd_done ?_
     refine NoPanic.normal ?_
     go_wp2_with fail
     go_meet
     exact Lib.hid ⟨HBZ.out, KRZ.out, HFL.out, .inr ⟨rfl, HYES.out, b, o, c', q, rfl, HIN.out, HVAL.out⟩⟩
  ·refine stepAt_of _ rfl rfl (fun K hK => ?_)
   go_simp
   have KP := Lib.hid (show Blk ((w1.alloc (.cells #[.string ⟨#[97, 110, 121]⟩, .string ⟨#[]⟩, .int .i64 0, .slice none 0 0] 28)).drew) w1.heap.size #[.string ⟨#[97, 110, 121]⟩, .string ⟨#[]⟩, .int .i64 0, .slice none 0 0] 28 from Blk.new w1 _ _)
   have HS1 := Lib.hid (show Below w1.heap.size w1 ((w1.alloc (.cells #[.string ⟨#[97, 110, 121]⟩, .string ⟨#[]⟩, .int .i64 0, .slice none 0 0] 28)).drew) from ((Below.refl _ _).alloc (Nat.le_refl _) _).drew)
   have HZ1 := Lib.hid (HZ0.out.trans (HS1.out.mono HZ0.out.size))
   refine hK _ _ ⟨HSF.out _ HZ1.out, ?_⟩
   clear hK K
   generalize ((w1.alloc (.cells #[.string ⟨#[97, 110, 121]⟩, .string ⟨#[]⟩, .int .i64 0, .slice none 0 0] 28)).drew) = wx1 at KP HS1 HZ1 ⊢
   refine wpOrd_two ?_ ?_
   ·refine stepAt_of _ rfl rfl (fun K hK => ?_)
    go_simp
    have KT := Lib.hid (show Blk (wx1.alloc (.cells #[.string t.dof, .string t.name, .slice t.at_ t.args.length t.cap] 25)) wx1.heap.size #[.string t.dof, .string t.name, .slice t.at_ t.args.length t.cap] 25 from Blk.new wx1 _ _)
    have HS2 := Lib.hid (show Below wx1.heap.size wx1 (wx1.alloc (.cells #[.string t.dof, .string t.name, .slice t.at_ t.args.length t.cap] 25)) from ((Below.refl _ _).alloc (Nat.le_refl _) _))
    have KP := Lib.hid (KP.out.below HS2.out KP.out.lt)
    have HZ2 := Lib.hid (HZ1.out.trans (HS2.out.mono HZ1.out.size))
    refine hK _ _ ⟨HSF.out _ HZ2.out, ?_⟩
    clear hK K
    generalize (wx1.alloc (.cells #[.string t.dof, .string t.name, .slice t.at_ t.args.length t.cap] 25)) = wx2 at KP KT HS2 HZ2 ⊢
    refine wpOrd_one ?_
    refine stepAt_of _ rfl rfl (fun K hK => ?_)
    go_simp
    have HD := Lib.hid (show Below w.heap.size w wx2 from (HB1.out.trans (HZ2.out.mono HB1.out.size)))
    refine Calls.mono (HROWS.out _ HD.out) ?_
    rintro e wx3 ⟨hb9, v9, rfl, hro⟩
    obtain ⟨rs9, A9, c9, hr1, rfl, hr2, hr3⟩ := hro
    have RO : Hid (RowsO w.heap.size wx3 (.slice A9 ps.length c9) ps ps.length) := Lib.hid ⟨rs9, A9, c9, hr1, rfl, own_wide hr2 HD.out.size, hr3⟩
    have HS3 := Lib.hid (show Below wx2.heap.size wx2 wx3 from hb9)
    have KP := Lib.hid (KP.out.below HS3.out KP.out.lt)
    have KT := Lib.hid (KT.out.below HS3.out KT.out.lt)
    have HZ3 := Lib.hid (HZ2.out.trans (HS3.out.mono HZ2.out.size))
    refine hK _ _ ⟨HSF.out _ HZ3.out, ?_⟩
    clear hK K hb9 hr1 hr2 hr3
    refine wpOrd_one ?_
    refine stepAt_of _ rfl rfl (fun K hK => ?_)
    go_simp
    refine Calls.mono (HSEEK.out _ _ _ _ _ (HB1.out.trans (HZ3.out.mono HB1.out.size)) (HV1.out.next HZ3.out) KT.out KP.out RO.out) ?_
    rintro e wz ⟨hsz, hmid⟩
    have HSZ := Lib.hid hsz
    have HPZ := Lib.hid (show T3 w.heap.size t wz from by
     have k1 := hsz.blk (K1.out.below HZ3.out K1.out.lt) (by decide)
     exact ⟨k1.cell 0, k1.cell 1, k1.cell 2, k1.lt⟩)
    have KRZ := Lib.hid (hsz.blk (KR1.out.below HZ3.out KR1.out.lt) (by decide))
    have HBZ := Lib.hid ((HB1.out.trans (HZ3.out.mono HB1.out.size)).trans (HSZ.out.below (by have := HB1.out.size; have := HZ3.out.size; omega) HZB.out))
    have HFL := Lib.hid (show ∃ f1, Blk wz Z.b (Z.cells f1) 90 from by
     obtain ⟨f0, f1, -, hf1, -⟩ := hsz.flag
     exact ⟨f1, hf1⟩)
    rcases hmid with ⟨rfl, hno⟩ | ⟨hyes, b, o, c', q, rfl, hin, hval⟩
    ·have HNO := Lib.hid hno
     clear hno
     refine hK _ _ ⟨HPZ.out, ?_⟩
     clear hK K hsz
     iterate 3
      refine wpOrd_read _ ?_ rfl (by rfl) (fun W hW => ?_) ?_
      rotate_left
      ·unfold T3 at hW
       go_simp
       try with_reducible rfl
      simp only [Act.put, List.setIfInBounds_toArray, List.set_cons_zero, List.set_cons_succ]
     iterate 2
      refine wpOrd_one ?_
      refine stepAt_of _ rfl rfl (fun K hK => ?_)
      go_simp
      refine hK _ _ ⟨HPZ.out, ?_⟩
      clear hK K
     refine wpOrd_done ?_
     refine NoPanic.normal ?_
     go_wp2_with fail
     go_meet
     exact Lib.hid ⟨HBZ.out, KRZ.out, HFL.out, .inl ⟨rfl, rfl, HNO.out⟩⟩
    ·have HYES := Lib.hid hyes
     have HIN := Lib.hid hin
     have HVAL := Lib.hid hval
     clear hyes hin hval
     refine hK _ _ ⟨HPZ.out, ?_⟩
     clear hK K hsz
     iterate 3
      refine wpOrd_read _ ?_ rfl (by rfl) (fun W hW => ?_) ?_
      rotate_left
      ·unfold T3 at hW
       go_simp
       try with_reducible rfl
      simp only [Act.put, List.setIfInBounds_toArray, List.set_cons_zero, List.set_cons_succ]
     iterate 2
      refine wpOrd_one ?_
      refine stepAt_of _ rfl rfl (fun K hK => ?_)
      go_simp
      refine hK _ _ ⟨HPZ.out, ?_⟩
      clear hK K
     refine wpOrd_done ?_
     refine NoPanic.normal ?_
     go_wp2_with fail
     go_meet
     exact Lib.hid ⟨HBZ.out, KRZ.out, HFL.out, .inr ⟨rfl, HYES.out, b, o, c', q, rfl, HIN.out, HVAL.out⟩⟩
   ·refine stepAt_of _ rfl rfl (fun K hK => ?_)
    go_simp
    have HD := Lib.hid (show Below w.heap.size w wx1 from (HB1.out.trans (HZ1.out.mono HB1.out.size)))
    refine Calls.mono (HROWS.out _ HD.out) ?_
    rintro e wx2 ⟨hb9, v9, rfl, hro⟩
    obtain ⟨rs9, A9, c9, hr1, rfl, hr2, hr3⟩ := hro
    have RO : Hid (RowsO w.heap.size wx2 (.slice A9 ps.length c9) ps ps.length) := Lib.hid ⟨rs9, A9, c9, hr1, rfl, own_wide hr2 HD.out.size, hr3⟩
    have HS2 := Lib.hid (show Below wx1.heap.size wx1 wx2 from hb9)
    have KP := Lib.hid (KP.out.below HS2.out KP.out.lt)
    have HZ2 := Lib.hid (HZ1.out.trans (HS2.out.mono HZ1.out.size))
    refine hK _ _ ⟨HSF.out _ HZ2.out, ?_⟩
    clear hK K hb9 hr1 hr2 hr3
    refine wpOrd_one ?_
    refine stepAt_of _ rfl rfl (fun K hK => ?_)
    go_simp
    have KT := Lib.hid (show Blk (wx2.alloc (.cells #[.string t.dof, .string t.name, .slice t.at_ t.args.length t.cap] 25)) wx2.heap.size #[.string t.dof, .string t.name, .slice t.at_ t.args.length t.cap] 25 from Blk.new wx2 _ _)
    have HS3 := Lib.hid (show Below wx2.heap.size wx2 (wx2.alloc (.cells #[.string t.dof, .string t.name, .slice t.at_ t.args.length t.cap] 25)) from ((Below.refl _ _).alloc (Nat.le_refl _) _))
    have KP := Lib.hid (KP.out.below HS3.out KP.out.lt)
    have RO := Lib.hid (RO.out.keep HS3.out)
    have HZ3 := Lib.hid (HZ2.out.trans (HS3.out.mono HZ2.out.size))
    refine hK _ _ ⟨HSF.out _ HZ3.out, ?_⟩
    clear hK K
    generalize (wx2.alloc (.cells #[.string t.dof, .string t.name, .slice t.at_ t.args.length t.cap] 25)) = wx3 at KP RO KT HS3 HZ3 ⊢
    refine wpOrd_one ?_
    refine stepAt_of _ rfl rfl (fun K hK => ?_)
    go_simp
    refine Calls.mono (HSEEK.out _ _ _ _ _ (HB1.out.trans (HZ3.out.mono HB1.out.size)) (HV1.out.next HZ3.out) KT.out KP.out RO.out) ?_
    rintro e wz ⟨hsz, hmid⟩
    have HSZ := Lib.hid hsz
    have HPZ := Lib.hid (show T3 w.heap.size t wz from by
     have k1 := hsz.blk (K1.out.below HZ3.out K1.out.lt) (by decide)
     exact ⟨k1.cell 0, k1.cell 1, k1.cell 2, k1.lt⟩)
    have KRZ := Lib.hid (hsz.blk (KR1.out.below HZ3.out KR1.out.lt) (by decide))
    have HBZ := Lib.hid ((HB1.out.trans (HZ3.out.mono HB1.out.size)).trans (HSZ.out.below (by have := HB1.out.size; have := HZ3.out.size; omega) HZB.out))
    have HFL := Lib.hid (show ∃ f1, Blk wz Z.b (Z.cells f1) 90 from by
     obtain ⟨f0, f1, -, hf1, -⟩ := hsz.flag
     exact ⟨f1, hf1⟩)
    rcases hmid with ⟨rfl, hno⟩ | ⟨hyes, b, o, c', q, rfl, hin, hval⟩
    ·have HNO := Lib.hid hno
     clear hno
     refine hK _ _ ⟨HPZ.out, ?_⟩
     clear hK K hsz
     iterate 3
      refine wpOrd_read _ ?_ rfl (by rfl) (fun W hW => ?_) ?_
      rotate_left
      ·unfold T3 at hW
       go_simp
       try with_reducible rfl
      simp only [Act.put, List.setIfInBounds_toArray, List.set_cons_zero, List.set_cons_succ]
     iterate 2
      refine wpOrd_one ?_
      refine stepAt_of _ rfl rfl (fun K hK => ?_)
      go_simp
      refine hK _ _ ⟨HPZ.out, ?_⟩
      clear hK K
     refine wpOrd_done ?_
     refine NoPanic.normal ?_
     go_wp2_with fail
     go_meet
     exact Lib.hid ⟨HBZ.out, KRZ.out, HFL.out, .inl ⟨rfl, rfl, HNO.out⟩⟩
    ·have HYES := Lib.hid hyes
     have HIN := Lib.hid hin
     have HVAL := Lib.hid hval
     clear hyes hin hval
     refine hK _ _ ⟨HPZ.out, ?_⟩
     clear hK K hsz
     iterate 3
      refine wpOrd_read _ ?_ rfl (by rfl) (fun W hW => ?_) ?_
      rotate_left
      ·unfold T3 at hW
       go_simp
       try with_reducible rfl
      simp only [Act.put, List.setIfInBounds_toArray, List.set_cons_zero, List.set_cons_succ]
     iterate 2
      refine wpOrd_one ?_
      refine stepAt_of _ rfl rfl (fun K hK => ?_)
      go_simp
      refine hK _ _ ⟨HPZ.out, ?_⟩
      clear hK K
     refine wpOrd_done ?_
     refine NoPanic.normal ?_
     go_wp2_with fail
     go_meet
     exact Lib.hid ⟨HBZ.out, KRZ.out, HFL.out, .inr ⟨rfl, HYES.out, b, o, c', q, rfl, HIN.out, HVAL.out⟩⟩
 case rest =>
  obtain ⟨wz, rfl⟩ : ∃ wz : World, wz = wc := ⟨_, rfl⟩
  obtain ⟨hbz, krz, ⟨f1, hf1⟩, ⟨rfl, rfl, hno⟩ | ⟨rfl, hyes, b, o, c', q, rfl, hin, hval⟩⟩ := hcut.out
  ·have HBZ := Lib.hid hbz
   have KRZ := Lib.hid krz
   have HNO := Lib.hid hno
   clear hno hbz krz hf1 hcut
   obtain ⟨r0, r1, r2, r3⟩ := KRZ.out.four
   have rl := KRZ.out.lt
   have d0 := KRZ.out.free 0
   have d1 := KRZ.out.free 1
   have d2 := KRZ.out.free 2
   have d3 := KRZ.out.free 3
   go_wp2_with fail
   obtain ⟨hs9, hk9⟩ := four_set KRZ.out HBZ.out (by omega) (.string ⟨#[]⟩) (.string ⟨#[]⟩) (.int .i64 0) (.slice none 0 0)
   generalize (((wz.setCell ⟨w.heap.size + 1, 0, none⟩ (.string ⟨#[]⟩)).setCell ⟨w.heap.size + 1, 1, none⟩ (.string ⟨#[]⟩)).setCell ⟨w.heap.size + 1, 2, none⟩ (.int .i64 0)).setCell ⟨w.heap.size + 1, 3, none⟩ (.slice none 0 0) = w9 at hs9 hk9 ⊢
   obtain ⟨r0, r1, r2, r3⟩ := hk9.four
   exact bodyPost_ret (v := .tuple #[zeroPat, .int .i64 5]) (by simp [results, Tryz.results14, go_sem, r0, r1, r2, r3, zeroPat, emptyS]) rfl ⟨hs9, .inr (.inl ⟨HZERO.out, HNO.out, rfl⟩)⟩
  ·have HBZ := Lib.hid hbz
   have KRZ := Lib.hid krz
   have HYES := Lib.hid hyes
   have HIN := Lib.hid hin
   have HVAL := Lib.hid hval
   clear hyes hin hval hbz krz hcut
   have HF1 := Lib.hid hf1
   have s4 : wz.cell? ⟨Z.b, 4, none⟩ = some (.bool f1) := (hf1.cell 4).trans rfl
   have sl := hf1.lt
   clear hf1
   cases f1
   case true =>
    obtain ⟨r0, r1, r2, r3⟩ := KRZ.out.four
    have rl := KRZ.out.lt
    have d0 := KRZ.out.free 0
    have d1 := KRZ.out.free 1
    have d2 := KRZ.out.free 2
    have d3 := KRZ.out.free 3
    go_wp2_with fail
    obtain ⟨hs9, hk9⟩ := four_set KRZ.out HBZ.out (by omega) (.string ⟨#[]⟩) (.string ⟨#[]⟩) (.int .i64 0) (.slice none 0 0)
    generalize (((wz.setCell ⟨w.heap.size + 1, 0, none⟩ (.string ⟨#[]⟩)).setCell ⟨w.heap.size + 1, 1, none⟩ (.string ⟨#[]⟩)).setCell ⟨w.heap.size + 1, 2, none⟩ (.int .i64 0)).setCell ⟨w.heap.size + 1, 3, none⟩ (.slice none 0 0) = w9 at hs9 hk9 ⊢
    obtain ⟨r0, r1, r2, r3⟩ := hk9.four
    exact bodyPost_ret (v := .tuple #[zeroPat, .int .i64 4]) (by simp [results, Tryz.results14, go_sem, r0, r1, r2, r3, zeroPat, emptyS]) rfl ⟨hs9, .inr (.inr ⟨HZERO.out, HYES.out, .inl rfl⟩)⟩
   case false =>
    have HVQ := Lib.hid (HVAL.out HF1.out)
    obtain ⟨q', b', o', hq', -, hat', hb', z0, z1, z2, z3⟩ := Pt.arg_at (k := 0) HIN.out.1 (Below.refl _ _) (by simp)
    simp only [List.getElem?_cons_zero, Option.some.injEq, Addr.mk.injEq, and_true] at hq' hat'
    subst hq'
    obtain ⟨rfl, rfl⟩ := hat'
    simp only [Nat.zero_mul, Nat.add_zero] at z0 z1 z2 z3
    have HQI := Lib.hid (HIN.out.2.1 q (by simp))
    have HZC := Lib.hid (fun (W : World) (hW : Below wz.heap.size wz W) => (⟨(hW.cell (p := ⟨b, o, none⟩) hb').trans z0, (hW.cell (p := ⟨b, o + 1, none⟩) hb').trans z1, (hW.cell (p := ⟨b, o + 2, none⟩) hb').trans z2, (hW.cell (p := ⟨b, o + 3, none⟩) hb').trans z3⟩ : P4 b o q W))
    have hc1 := HIN.out.2.2.1
    simp only [List.length_cons, List.length_nil] at hc1
    have HCO := Lib.hid (fun (W : World) (hW : Below wz.heap.size wz W) => ofPat_any q W (HQI.out.next hW))
    have HCC := Lib.hid (fun (W : World) (hW : Below wz.heap.size wz W) => clone_pat q W (HQI.out.next hW))
    unfold PatCloned at HCC
    unfold Pt.val at HCO HCC
    go_wp2_with fail
    refine Calls.mono (HCO.out _ (Below.refl _ _)) ?_
    rintro e w2 ⟨rfl, hb2⟩
    have HB2 := Lib.hid (HBZ.out.trans (hb2.mono HBZ.out.size))
    have HZ2' := Lib.hid hb2
    have KR2 := Lib.hid (KRZ.out.below hb2 KRZ.out.lt)
    clear hb2 z0 z1 z2 z3
    go_wp2_with fail
    refine Calls.mono (fits_any _ _ w2) ?_
    rintro e w3 ⟨rfl, hb3⟩
    have HB3 := Lib.hid (HB2.out.trans (hb3.mono HB2.out.size))
    have HZ3' := Lib.hid (HZ2'.out.trans (hb3.mono HZ2'.out.size))
    have KR3 := Lib.hid (KR2.out.below hb3 KR2.out.lt)
    obtain ⟨z0, z1, z2, z3⟩ := HZC.out _ HZ3'.out
    have zl := HZ3'.out.size
    clear hb3
    generalize Sz.fits _ = fb
    cases fb
    case false =>
     obtain ⟨r0, r1, r2, r3⟩ := KR3.out.four
     have rl := KR3.out.lt
     have d0 := KR3.out.free 0
     have d1 := KR3.out.free 1
     have d2 := KR3.out.free 2
     have d3 := KR3.out.free 3
     go_wp2_with fail
     obtain ⟨hs9, hk9⟩ := four_set KR3.out HB3.out (by omega) (.string ⟨#[]⟩) (.string ⟨#[]⟩) (.int .i64 0) (.slice none 0 0)
     generalize (((w3.setCell ⟨w.heap.size + 1, 0, none⟩ (.string ⟨#[]⟩)).setCell ⟨w.heap.size + 1, 1, none⟩ (.string ⟨#[]⟩)).setCell ⟨w.heap.size + 1, 2, none⟩ (.int .i64 0)).setCell ⟨w.heap.size + 1, 3, none⟩ (.slice none 0 0) = w9 at hs9 hk9 ⊢
     obtain ⟨r0, r1, r2, r3⟩ := hk9.four
     exact bodyPost_ret (v := .tuple #[zeroPat, .int .i64 4]) (by simp [results, Tryz.results14, go_sem, r0, r1, r2, r3, zeroPat, emptyS]) rfl ⟨hs9, .inr (.inr ⟨HZERO.out, HYES.out, .inl rfl⟩)⟩
    case true =>
     go_wp2_with fail
     refine Calls.mono (HCC.out _ HZ3'.out) ?_
     rintro e w4 ⟨hb4, qn, rfl, hqi, hqf, hqb⟩
     have HB4 := Lib.hid (HB3.out.trans (hb4.mono HB3.out.size))
     have KR4 := Lib.hid (KR3.out.below hb4 KR3.out.lt)
     have HQN := Lib.hid (And.intro hqi (And.intro hqf hqb))
     have hr3 := KR3.out.lt
     clear hb4 hqi hqf hqb z0 z1 z2 z3
     obtain ⟨r0, r1, r2, r3⟩ := KR4.out.four
     have rl := KR4.out.lt
     have d0 := KR4.out.free 0
     have d1 := KR4.out.free 1
     have d2 := KR4.out.free 2
     have d3 := KR4.out.free 3
     go_wp2_with fail
     obtain ⟨hs9, hk9⟩ := four_set KR4.out HB4.out (by omega) (.string qn.dof) (.string qn.name) (.int .i64 qn.num) (.slice qn.at_ qn.args.length qn.cap)
     have hq9 : qn.In ((((w4.setCell ⟨w.heap.size + 1, 0, none⟩ (.string qn.dof)).setCell ⟨w.heap.size + 1, 1, none⟩ (.string qn.name)).setCell ⟨w.heap.size + 1, 2, none⟩ (.int .i64 qn.num)).setCell ⟨w.heap.size + 1, 3, none⟩ (.slice qn.at_ qn.args.length qn.cap)).heap.size ((((w4.setCell ⟨w.heap.size + 1, 0, none⟩ (.string qn.dof)).setCell ⟨w.heap.size + 1, 1, none⟩ (.string qn.name)).setCell ⟨w.heap.size + 1, 2, none⟩ (.int .i64 qn.num)).setCell ⟨w.heap.size + 1, 3, none⟩ (.slice qn.at_ qn.args.length qn.cap)) := Pt.In.moved (B0 := w3.heap.size) (fun k hk1 hk2 => by
      have hne : k ≠ w.heap.size + 1 := by omega
      rw [Below.heap_setCell _ _ _ _ hne, Below.heap_setCell _ _ _ _ hne, Below.heap_setCell _ _ _ _ hne, Below.heap_setCell _ _ _ _ hne]) (by simp [World.setCell]) qn HQN.out.1 HQN.out.2.1
     generalize (((w4.setCell ⟨w.heap.size + 1, 0, none⟩ (.string qn.dof)).setCell ⟨w.heap.size + 1, 1, none⟩ (.string qn.name)).setCell ⟨w.heap.size + 1, 2, none⟩ (.int .i64 qn.num)).setCell ⟨w.heap.size + 1, 3, none⟩ (.slice qn.at_ qn.args.length qn.cap) = w9 at hs9 hk9 hq9 ⊢
     obtain ⟨r0, r1, r2, r3⟩ := hk9.four
     exact bodyPost_ret (v := .tuple #[qn.val, .int .i64 0]) (by simp [results, Tryz.results14, go_sem, r0, r1, r2, r3, Pt.val]) rfl ⟨hs9, .inr (.inr ⟨HZERO.out, HYES.out, .inr ⟨qn, rfl, hq9, bare_val HQN.out.2.2 HVQ.out.1, fun p hp => by rw [bare_same HQN.out.2.2]; exact HVQ.out.2 p hp⟩⟩)⟩
end Go.Proofs.YtjeggkfgdhepaaaGreatDoor
