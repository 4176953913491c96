/- The reference's IsOf: cons, constructors, and the whole. -/
import Derived.Test.YtjeggkfgdhepaaaGreatDoorG07
import Derived.LaidMore
import Derived.Lay
import Derived.MakeChecks
import Derived.Stop.LaidErr
import Derived.Stop.Joined
import Derived.Shelf.Vars
import Derived.HandedShaped
import Derived.Deep.DeepHandedRow
import Derived.Lib.LaidTab
import Derived.Carry
set_option linter.unusedVariables false
set_option linter.unusedSimpArgs false
namespace Go.Proofs.YtjeggkfgdhepaaaGreatDoor
open Go.RowKit
open Go.Proofs
def SC2 (bt bp : Nat) (td tn : ByteArray) (b1 o1 tc : Nat) (t0 : Ty) (d s : ByteArray) (n : Int) (b2 o2 c : Nat) (p0 p1 : Pt) (W : World) : Prop:=
 W.cell? ⟨bt,0,none⟩ = some (.string td) ∧ W.cell? ⟨bt,1,none⟩ = some (.string tn) ∧ W.cell? ⟨bt,2,none⟩ = some (.slice (some ⟨b1,o1,none⟩) 1 tc) ∧ bt < W.heap.size ∧
 W.cell? ⟨bp,0,none⟩ = some (.string d) ∧ W.cell? ⟨bp,1,none⟩ = some (.string s) ∧ W.cell? ⟨bp,2,none⟩ = some (.int .i64 n) ∧ W.cell? ⟨bp,3,none⟩ = some (.slice (some ⟨b2,o2,none⟩) 2 c) ∧ bp < W.heap.size ∧
 (W.cell? ⟨b1,o1,none⟩ = some (.string t0.dof) ∧ W.cell? ⟨b1,o1 + 1,none⟩ = some (.string t0.name) ∧ W.cell? ⟨b1,o1 + 2,none⟩ = some (.slice t0.at_ t0.args.length t0.cap)) ∧
 (W.cell? ⟨b2,o2,none⟩ = some (.string p0.dof) ∧ W.cell? ⟨b2,o2 + 1,none⟩ = some (.string p0.name) ∧ W.cell? ⟨b2,o2 + 2,none⟩ = some (.int .i64 p0.num) ∧ W.cell? ⟨b2,o2 + 3,none⟩ = some (.slice p0.at_ p0.args.length p0.cap) ∧
 W.cell? ⟨b2,o2 + 4,none⟩ = some (.string p1.dof) ∧ W.cell? ⟨b2,o2 + 5,none⟩ = some (.string p1.name) ∧ W.cell? ⟨b2,o2 + 6,none⟩ = some (.int .i64 p1.num) ∧ W.cell? ⟨b2,o2 + 7,none⟩ = some (.slice p1.at_ p1.args.length p1.cap))
theorem one_ty {B : Nat} {w : World} {A : Option Addr} {p0 : Ty} (h : RowAt B w 3 A ([p0].map Ty.cells)) : ∃ b o,A = some ⟨b,o,none⟩ ∧ b < B ∧ ∀ W,Below B w W → 
  W.cell? ⟨b,o,none⟩ = some (.string p0.dof) ∧ W.cell? ⟨b,o + 1,none⟩ = some (.string p0.name) ∧ W.cell? ⟨b,o + 2,none⟩ = some (.slice p0.at_ p0.args.length p0.cap):=by
 obtain ⟨b,o,rfl,hb,hc⟩:=h (by simp)
 refine ⟨b,o,rfl,hb,fun W hW => ?_⟩
 have h0:=hc 0 p0.cells rfl
 have k:=fun (j : Nat) => (hW.cell (p:=⟨b,o + j,none⟩) hb)
 refine ⟨(k 0).trans (h0 0 _ rfl),(k 1).trans (h0 1 _ rfl),(k 2).trans (h0 2 _ rfl)⟩
theorem one_row {B : Nat} {w : World} {A : Option Addr} {p0 : Pt} (h : RowAt B w 4 A ([p0].map Pt.cells)) : ∃ b o,A = some ⟨b,o,none⟩ ∧ b < B ∧ ∀ W,Below B w W → 
  W.cell? ⟨b,o,none⟩ = some (.string p0.dof) ∧ W.cell? ⟨b,o + 1,none⟩ = some (.string p0.name) ∧ W.cell? ⟨b,o + 2,none⟩ = some (.int .i64 p0.num) ∧ W.cell? ⟨b,o + 3,none⟩ = some (.slice p0.at_ p0.args.length p0.cap):=by
 obtain ⟨b,o,rfl,hb,hc⟩:=h (by simp)
 refine ⟨b,o,rfl,hb,fun W hW => ?_⟩
 have h0:=hc 0 p0.cells rfl
 have k:=fun (j : Nat) => (hW.cell (p:=⟨b,o + j,none⟩) hb)
 refine ⟨(k 0).trans (h0 0 _ rfl),(k 1).trans (h0 1 _ rfl),(k 2).trans (h0 2 _ rfl),(k 3).trans (h0 3 _ rfl)⟩
set_option maxRecDepth 100000 in
set_option maxHeartbeats 8000000 in
theorem isOf_cons (A : Option Addr) (l : List Dt) (c : Nat) (p0 p1 : Pt) (h0 : IsOfC A l c p0) (h1 : IsOfC A l c p1) (d s : ByteArray) (n : Int) (Ap : Option Addr) (cp : Nat) (hdo : (d.toList == [99,111,110,115]) = true)
  (t : Ty) (w : World) (hd : DtsIn w.heap.size w A l) (hp : (Pt.mk d s n Ap cp [p0,p1]).In w.heap.size w) (hw : (Pt.mk d s n Ap cp [p0,p1]).wellB = true) (ht : t.In w.heap.size w) (htw : t.well (kindB .con) = true) :
  Calls Tryz.prog 39 #[.slice A l.length c,t.val,(Pt.mk d s n Ap cp [p0,p1]).val] w fun e w' => e = .returned (.bool ((Pt.mk d s n Ap cp [p0,p1]).isOf l t)) ∧ Below w.heap.size w w':=by
 obtain ⟨-,-,-,-,-,hprow,hpall⟩:=Pt.In_mk.1 hp
 rw [Pt.wellB_mk,Bool.and_eq_true,List.all_eq_true] at hw
 have g1:=do_other (b:=[97,110,121]) hdo (by decide)
 have g2:=do_other (b:=[118,97,114]) hdo (by decide)
 have g3:=do_other (b:=[105,110,116]) hdo (by decide)
 have g4:=do_other (b:=[98,111,111,108]) hdo (by decide)
 have g5:=do_other (b:=[117,110,105,116]) hdo (by decide)
 have g6:=do_other (b:=[110,105,108]) hdo (by decide)
 have g7:=do_other (b:=[112,97,105,114]) hdo (by decide)
 have HRES:=Lib.hid (show (Pt.mk d s n Ap cp [p0,p1]).isOf l t = (isDo [108,105,115,116] t.dof && isOfL l [p0,p1] (t.args.take 1 ++ [t])) by
  rw [Pt.isOf_mk]
  simp only [isDo,g1,g2,g3,g4,g5,g6,g7,hdo,Bool.or_false,Bool.false_eq_true,if_false,if_true])
 generalize (Pt.mk d s n Ap cp [p0,p1]).isOf l t = res at HRES ⊢
 have HB0:=Lib.hid (((Below.refl w.heap.size w).alloc (Nat.le_refl _) (.cells #[.string t.dof,.string t.name,.slice t.at_ t.args.length t.cap] 25)).alloc (by simp) (.cells #[.string d,.string s,.int .i64 n,.slice Ap 2 cp] 28))
 have K1:=Lib.hid ((Blk.new w #[.string t.dof,.string t.name,.slice t.at_ t.args.length t.cap] 25).alloc (.cells #[.string d,.string s,.int .i64 n,.slice Ap 2 cp] 28))
 have K2:=Lib.hid (Blk.new' (w.alloc (.cells #[.string t.dof,.string t.name,.slice t.at_ t.args.length t.cap] 25)) #[.string d,.string s,.int .i64 n,.slice Ap 2 cp] 28 (w.heap.size + 1) (by simp))
 obtain ⟨b2,o2,rfl,hb2,hpc⟩:=two_rows hprow
 obtain ⟨tt,htt⟩ : ∃ x,(t.dof.toList == [108,105,115,116]) = x:=⟨_,rfl⟩
 have HTT:=Lib.hid htt
 cases tt
 case false =>
  have HR:=Lib.hid (show res = false by rw [HRES.out]; unfold isDo; rw [HTT.out]; rfl)
  have hbox : ∀ W,Below ((w.alloc (.cells #[.string t.dof,.string t.name,.slice t.at_ t.args.length t.cap] 25)).alloc (.cells #[.string d,.string s,.int .i64 n,.slice (some ⟨b2,o2,none⟩) 2 cp] 28)).heap.size ((w.alloc (.cells #[.string t.dof,.string t.name,.slice t.at_ t.args.length t.cap] 25)).alloc (.cells #[.string d,.string s,.int .i64 n,.slice (some ⟨b2,o2,none⟩) 2 cp] 28)) W → B2 (w.heap.size + 1) w.heap.size d s n (some ⟨b2,o2,none⟩) 2 cp t W:=fun W hW => by
   have k1:=K1.out.below hW K1.out.lt
   have k2:=K2.out.below hW K2.out.lt
   exact ⟨k2.cell 0,k2.cell 1,k2.cell 2,k2.cell 3,k1.cell 0,k1.cell 1,k1.cell 2⟩
  have HBOX:=Lib.hid hbox
  unfold Ty.val Pt.val at *
  simp only [Pt.dof,Pt.name,Pt.num,Pt.at_,Pt.cap,Pt.args,List.length_cons,List.length_nil,Nat.zero_add,Nat.reduceAdd] at *
  clear hbox hprow hpc hpall hw hp ht htw hd
  go_enter Tryz.func39,Tryz.ntmps39
  go_wp2_with fail
  refine region_mix (B2 (w.heap.size + 1) w.heap.size d s n (some ⟨b2,o2,none⟩) 2 cp t) [(0,true),(1,true),(2,true),(3,true),(4,true),(5,true),(6,true),(7,true),(8,true),(9,true),(10,true),(11,true),(12,true),(13,false),(14,false),(15,false),(16,true),(17,true),(18,true),(19,true),(20,true),(21,true),(22,false),(23,false),(24,false)] 23 (by kernel_rfl) (by kernel_rfl) (HBOX.out _ (Below.refl _ _).drew) ?_
  simp only [pickM,List.filterMap_cons,List.getElem?_cons_zero,List.getElem?_cons_succ,List.filterMap_nil,Option.map_some]
  iterate 4
   refine wpMix_read ?_ (by rfl) (fun W hW => ?_) ?_
   rotate_left
   ·unfold B2 at hW
    go_simp
    try with_reducible rfl
   simp only [Act.put,List.setIfInBounds_toArray,List.set_cons_zero,List.set_cons_succ]
  iterate 9
   refine wpMix_none (by rfl) ?_
   simp only [Act.put,List.setIfInBounds_toArray,List.set_cons_zero,List.set_cons_succ]
  refine wpMix_skip (by rfl) (HBOX.out _ (Below.refl _ _).drew) ?_
  simp only [Act.put,List.setIfInBounds_toArray,List.set_cons_zero,List.set_cons_succ]
  iterate 2
   refine wpMix_step rfl (fun K hK => ?_)
   go_simp
   refine hK _ _ (fun _ => HBOX.out _ (Below.refl _ _).drew) ?_
   clear hK K
  iterate 6
   refine wpMix_none (by rfl) ?_
   simp only [Act.put,List.setIfInBounds_toArray,List.set_cons_zero,List.set_cons_succ]
  refine wpMix_skip (by rfl) (HBOX.out _ (Below.refl _ _).drew) ?_
  simp only [Act.put,List.setIfInBounds_toArray,List.set_cons_zero,List.set_cons_succ]
  iterate 2
   refine wpMix_step rfl (fun K hK => ?_)
   go_simp
   refine hK _ _ (fun _ => HBOX.out _ (Below.refl _ _).drew) ?_
   clear hK K
  refine wpMix_nil ?_
  refine NoPanic.normal ?_
  go_wp2_with fail
  go_ret
  exact ⟨by rw [HR.out]; rfl,HB0.out.drew⟩
 case true =>
  have har : t.args.length = 1:=by
   have h1:=(Ty.well_parts htw).1
   rw [arity_list htt] at h1
   simpa using h1.symm
  obtain ⟨td,tn,tA,tc,tl⟩:=t
  have HHT:=Lib.hid ht
  have HHW:=Lib.hid htw
  simp only [Ty.dof,Ty.name,Ty.at_,Ty.cap,Ty.args] at *
  obtain ⟨t0,rfl⟩:=one_list har
  obtain ⟨-,-,-,-,htrow,htall⟩:=Ty.In_mk.1 ht
  obtain ⟨b1,o1,rfl,hb1,htc⟩:=one_ty htrow
  have HTW:=Lib.hid ((Ty.well_parts htw).2)
  have hbox : ∀ W,Below ((w.alloc (.cells #[.string td,.string tn,.slice (some ⟨b1,o1,none⟩) 1 tc] 25)).alloc (.cells #[.string d,.string s,.int .i64 n,.slice (some ⟨b2,o2,none⟩) 2 cp] 28)).heap.size ((w.alloc (.cells #[.string td,.string tn,.slice (some ⟨b1,o1,none⟩) 1 tc] 25)).alloc (.cells #[.string d,.string s,.int .i64 n,.slice (some ⟨b2,o2,none⟩) 2 cp] 28)) W → SC2 w.heap.size (w.heap.size + 1) td tn b1 o1 tc t0 d s n b2 o2 cp p0 p1 W:=fun W hW => by
   have k1:=K1.out.below hW K1.out.lt
   have k2:=K2.out.below hW K2.out.lt
   have hb:=HB0.out.trans (hW.mono HB0.out.size)
   exact ⟨k1.cell 0,k1.cell 1,k1.cell 2,k1.lt,k2.cell 0,k2.cell 1,k2.cell 2,k2.cell 3,k2.lt,htc W hb,hpc W hb⟩
  have HBOX:=Lib.hid hbox
  have HC0:=Lib.hid (fun (W : World) (hW : Below w.heap.size w W) => h0 t0 W (hd.next hW) ((hpall p0 (by simp)).next hW) (hw.2 p0 (by simp)) ((htall t0 (by simp)).next hW) (HTW.out t0 (by simp [Ty.args])))
  have HC1:=Lib.hid (fun (W : World) (hW : Below w.heap.size w W) => h1 (.mk td tn (some ⟨b1,o1,none⟩) tc [t0]) W (hd.next hW) ((hpall p1 (by simp)).next hW) (hw.2 p1 (by simp)) (HHT.out.next hW) HHW.out)
  have HR:=Lib.hid (show res = (p0.isOf l t0 && p1.isOf l (.mk td tn (some ⟨b1,o1,none⟩) tc [t0])) by rw [HRES.out]; unfold isDo isOfL; rw [htt]; simp)
  clear hbox hprow hpc hpall hw hp ht htw hd htrow htall htc h0 h1 har HHT HHW HTW HRES
  generalize p0.isOf l t0 = r0 at HC0 HR
  generalize p1.isOf l (.mk td tn (some ⟨b1,o1,none⟩) tc [t0]) = r1 at HC1 HR
  unfold Ty.val Pt.val at *
  simp only [Pt.dof,Pt.name,Pt.num,Pt.at_,Pt.cap,Pt.args,Ty.dof,Ty.name,Ty.at_,Ty.cap,Ty.args,List.length_cons,List.length_nil,Nat.zero_add,Nat.reduceAdd] at *
  cases r0
  case false =>
   go_enter Tryz.func39,Tryz.ntmps39
   go_wp2_with fail
   generalize ((w.alloc (.cells #[.string td,.string tn,.slice (some ⟨b1,o1,none⟩) 1 tc] 25)).alloc (.cells #[.string d,.string s,.int .i64 n,.slice (some ⟨b2,o2,none⟩) 2 cp] 28)) = w0 at HBOX HB0 ⊢
   refine region_mix (SC2 w.heap.size (w.heap.size + 1) td tn b1 o1 tc t0 d s n b2 o2 cp p0 p1) [(0,true),(1,true),(2,true),(3,true),(4,true),(5,true),(6,true),(7,true),(8,true),(9,true),(10,true),(11,true),(12,true),(13,false),(14,false),(15,false),(16,true),(17,true),(18,true),(19,true),(20,true),(21,true),(22,false),(23,false),(24,false)] 23 (by kernel_rfl) (by kernel_rfl) (HBOX.out _ (Below.refl _ _).drew) ?_
   simp only [pickM,List.filterMap_cons,List.getElem?_cons_zero,List.getElem?_cons_succ,List.filterMap_nil,Option.map_some]
   iterate 13
    refine wpMix_read ?_ (by rfl) (fun W hW => ?_) ?_
    rotate_left
    ·unfold SC2 at hW
     go_simp
     try with_reducible rfl
    simp only [Act.put,List.setIfInBounds_toArray,List.set_cons_zero,List.set_cons_succ]
   refine wpMix_stepw (by rfl) (fun K hK => ?_)
   go_simp
   refine Calls.mono (HC0.out _ (HB0.out.drew)) ?_
   rintro e w5 ⟨rfl,hb5⟩
   have HD5:=Lib.hid (((Below.refl w0.heap.size w0).drew).trans (hb5.mono ((Below.refl w0.heap.size w0).drew).size))
   clear hb5
   refine hK _ _ (fun _ => HBOX.out _ HD5.out) ?_
   clear hK K
   iterate 2
    refine wpMix_step rfl (fun K hK => ?_)
    go_simp
    refine hK _ _ (fun _ => HBOX.out _ HD5.out) ?_
    clear hK K
   iterate 6
    refine wpMix_none (by rfl) ?_
    simp only [Act.put,List.setIfInBounds_toArray,List.set_cons_zero,List.set_cons_succ]
   refine wpMix_skip (by rfl) (HBOX.out _ HD5.out) ?_
   simp only [Act.put,List.setIfInBounds_toArray,List.set_cons_zero,List.set_cons_succ]
   iterate 2
    refine wpMix_step rfl (fun K hK => ?_)
    go_simp
    refine hK _ _ (fun _ => HBOX.out _ HD5.out) ?_
    clear hK K
   refine wpMix_nil ?_
   refine NoPanic.normal ?_
   go_wp2_with fail
   go_ret
   exact ⟨by rw [HR.out]; rfl,HB0.out.trans (HD5.out.mono HB0.out.size)⟩
  case true =>
   go_enter Tryz.func39,Tryz.ntmps39
   go_wp2_with fail
   generalize ((w.alloc (.cells #[.string td,.string tn,.slice (some ⟨b1,o1,none⟩) 1 tc] 25)).alloc (.cells #[.string d,.string s,.int .i64 n,.slice (some ⟨b2,o2,none⟩) 2 cp] 28)) = w0 at HBOX HB0 ⊢
   refine region_mix (SC2 w.heap.size (w.heap.size + 1) td tn b1 o1 tc t0 d s n b2 o2 cp p0 p1) [(0,true),(1,true),(2,true),(3,true),(4,true),(5,true),(6,true),(7,true),(8,true),(9,true),(10,true),(11,true),(12,true),(13,false),(14,false),(15,false),(16,true),(17,true),(18,true),(19,true),(20,true),(21,true),(22,false),(23,false),(24,false)] 23 (by kernel_rfl) (by kernel_rfl) (HBOX.out _ (Below.refl _ _).drew) ?_
   simp only [pickM,List.filterMap_cons,List.getElem?_cons_zero,List.getElem?_cons_succ,List.filterMap_nil,Option.map_some]
   iterate 13
    refine wpMix_read ?_ (by rfl) (fun W hW => ?_) ?_
    rotate_left
    ·unfold SC2 at hW
     go_simp
     try with_reducible rfl
    simp only [Act.put,List.setIfInBounds_toArray,List.set_cons_zero,List.set_cons_succ]
   refine wpMix_stepw (by rfl) (fun K hK => ?_)
   go_simp
   refine Calls.mono (HC0.out _ (HB0.out.drew)) ?_
   rintro e w5 ⟨rfl,hb5⟩
   have HD5:=Lib.hid (((Below.refl w0.heap.size w0).drew).trans (hb5.mono ((Below.refl w0.heap.size w0).drew).size))
   clear hb5
   refine hK _ _ (fun _ => HBOX.out _ HD5.out) ?_
   clear hK K
   iterate 2
    refine wpMix_step rfl (fun K hK => ?_)
    go_simp
    refine hK _ _ (fun _ => HBOX.out _ HD5.out) ?_
    clear hK K
   iterate 6
    refine wpMix_read ?_ (by rfl) (fun W hW => ?_) ?_
    rotate_left
    ·unfold SC2 at hW
     go_simp
     try with_reducible rfl
    simp only [Act.put,List.setIfInBounds_toArray,List.set_cons_zero,List.set_cons_succ]
   refine wpMix_stepw (by rfl) (fun K hK => ?_)
   go_simp
   refine Calls.mono (HC1.out _ (HB0.out.trans (HD5.out.mono HB0.out.size))) ?_
   rintro e w6 ⟨rfl,hb6⟩
   have HD6:=Lib.hid (HD5.out.trans (hb6.mono HD5.out.size))
   clear hb6
   refine hK _ _ (fun _ => HBOX.out _ HD6.out) ?_
   clear hK K
   iterate 2
    refine wpMix_step rfl (fun K hK => ?_)
    go_simp
    refine hK _ _ (fun _ => HBOX.out _ HD6.out) ?_
    clear hK K
   refine wpMix_nil ?_
   refine NoPanic.normal ?_
   go_wp2_with fail
   go_ret
   exact ⟨by rw [HR.out]; simp,HB0.out.trans (HD6.out.mono HB0.out.size)⟩
theorem dtFound_cons {B : Nat} {w : World} {A : Option Addr} {l : List Dt} (h : DtsIn B w A l) (n : ByteArray) : ∃ nm A9 c9,(dtFound l n).1 = .agg #[.string nm,.slice A9 (consOf l n).length c9] ∧ RowAt B w 5 A9 ((consOf l n).map Cn.cells) ∧
  (∀ x ∈ consOf l n,x.In B w ∧ ∃ d ∈ l,x ∈ d.cons) ∧ (consOf l n).length ≤ 1099511627776:=by
 unfold dtFound consOf
 cases hf : l.find? fun d => d.name.toList == n.toList with
 | none => exact ⟨emptyS,none,0,rfl,fun h0 => (by simp at h0),fun x hx => (by cases hx),(by simp)⟩
 | some d =>
  have hm:=List.mem_of_find?_eq_some hf
  obtain ⟨h1,h2,h3,h4,h5⟩:=h.each d hm
  exact ⟨d.name,d.at_,d.cap,rfl,h4,fun x hx => ⟨h5 x hx,d,hm,hx⟩,h2⟩
def SX (bx bp : Nat) (cc : Cn) (d s : ByteArray) (n : Int) (b2 o2 c : Nat) (p0 : Pt) (W : World) : Prop:=
 W.cell? ⟨bx,0,none⟩ = some (.string cc.name) ∧ W.cell? ⟨bx,1,none⟩ = some (.bool cc.has) ∧ W.cell? ⟨bx,2,none⟩ = some (.string cc.ty.dof) ∧ W.cell? ⟨bx,3,none⟩ = some (.string cc.ty.name) ∧ W.cell? ⟨bx,4,none⟩ = some (.slice cc.ty.at_ cc.ty.args.length cc.ty.cap) ∧ bx < W.heap.size ∧
 W.cell? ⟨bp,3,none⟩ = some (.slice (some ⟨b2,o2,none⟩) 1 c) ∧ bp < W.heap.size ∧
 (W.cell? ⟨b2,o2,none⟩ = some (.string p0.dof) ∧ W.cell? ⟨b2,o2 + 1,none⟩ = some (.string p0.name) ∧ W.cell? ⟨b2,o2 + 2,none⟩ = some (.int .i64 p0.num) ∧ W.cell? ⟨b2,o2 + 3,none⟩ = some (.slice p0.at_ p0.args.length p0.cap))
def SX0 (bx : Nat) (W : World) : Prop:=W.cell? ⟨bx,1,none⟩ = some (.bool false) ∧ bx < W.heap.size
set_option maxRecDepth 100000 in
set_option maxHeartbeats 16000000 in
theorem isOf_con (A : Option Addr) (l : List Dt) (c : Nat) (hty : ∀ d ∈ l,∀ x ∈ d.cons,x.has = true → x.ty.well (kindB .con) = true) (d s : ByteArray) (n : Int) (Ap : Option Addr) (cp : Nat) (ps : List Pt) (hps : ∀ q ∈ ps,IsOfC A l c q)
  (g1 : (d.toList == [97,110,121]) = false) (g2 : (d.toList == [118,97,114]) = false) (g3 : (d.toList == [105,110,116]) = false) (g4 : (d.toList == [98,111,111,108]) = false) (g5 : (d.toList == [117,110,105,116]) = false) (g6 : (d.toList == [110,105,108]) = false)
  (g7 : (d.toList == [112,97,105,114]) = false) (g8 : (d.toList == [99,111,110,115]) = false)
  (t : Ty) (w : World) (hd : DtsIn w.heap.size w A l) (hp : (Pt.mk d s n Ap cp ps).In w.heap.size w) (hw : (Pt.mk d s n Ap cp ps).wellB = true) (ht : t.In w.heap.size w) (htw : t.well (kindB .con) = true) :
  Calls Tryz.prog 39 #[.slice A l.length c,t.val,(Pt.mk d s n Ap cp ps).val] w fun e w' => e = .returned (.bool ((Pt.mk d s n Ap cp ps).isOf l t)) ∧ Below w.heap.size w w':=by
 obtain ⟨-,-,-,-,-,hprow,hpall⟩:=Pt.In_mk.1 hp
 rw [Pt.wellB_mk,Bool.and_eq_true,List.all_eq_true] at hw
 have HRES:=Lib.hid (show (Pt.mk d s n Ap cp ps).isOf l t = (match pickC l t s ps.length with | none => false | some c => !c.has || isOfL l ps [c.ty]) by
  rw [Pt.isOf_mk]
  simp only [isDo,g1,g2,g3,g4,g5,g6,g7,g8,Bool.or_false,Bool.false_eq_true,if_false,if_true]
  cases pickC l t s ps.length <;> rfl)
 generalize (Pt.mk d s n Ap cp ps).isOf l t = res at HRES ⊢
 obtain ⟨nm,A9,c9,hform,hrow9,hx9,hl9⟩:=dtFound_cons hd t.name
 have HR9:=Lib.hid hrow9
 have HX9:=Lib.hid hx9
 have HFORM:=Lib.hid hform
 have HD:=Lib.hid hd
 have HP:=Lib.hid hpall
 have HPR:=Lib.hid hprow
 have HPW:=Lib.hid hw.2
 have HPS:=Lib.hid hps
 have HTY:=Lib.hid hty
 have HPICK:=Lib.hid (show pickC l t s ps.length = (consOf l t.name).find? (fun c => isDo [100,97,116,97] t.dof && (c.name.toList == s.toList && (c.has == ((ps.length : Int) == 1)))) from rfl)
 have HCD:=Lib.hid (fun (W : World) (hW : Below w.heap.size w W) => datatype_any A l c t.name W (HD.out.next hW))
 generalize consOf l t.name = cs at hform hrow9 hx9 hl9 HR9 HX9 HFORM HPICK
 have HB0:=Lib.hid (((Below.refl w.heap.size w).alloc (Nat.le_refl _) (.cells #[.string t.dof,.string t.name,.slice t.at_ t.args.length t.cap] 25)).alloc (by simp) (.cells #[.string d,.string s,.int .i64 n,.slice Ap ps.length cp] 28))
 have K1:=Lib.hid ((Blk.new w #[.string t.dof,.string t.name,.slice t.at_ t.args.length t.cap] 25).alloc (.cells #[.string d,.string s,.int .i64 n,.slice Ap ps.length cp] 28))
 have K2:=Lib.hid (Blk.new' (w.alloc (.cells #[.string t.dof,.string t.name,.slice t.at_ t.args.length t.cap] 25)) #[.string d,.string s,.int .i64 n,.slice Ap ps.length cp] 28 (w.heap.size + 1) (by simp))
 clear hform hrow9 hx9 hprow hpall hd hp hw ht htw hps hty
 unfold Ty.val Pt.val
 simp only [Pt.dof,Pt.name,Pt.num,Pt.at_,Pt.cap,Pt.args]
 obtain ⟨tdat,hdat⟩ : ∃ x,(t.dof.toList == [100,97,116,97]) = x:=⟨_,rfl⟩
 obtain ⟨lb,hlb⟩ : ∃ x,((ps.length : Int) == 1) = x:=⟨_,rfl⟩
 have HPICK2:=Lib.hid (show pickC l t s ps.length = cs.find? (fun c => tdat && (c.name.toList == s.toList && (c.has == lb))) by rw [HPICK.out]; unfold isDo; rw [hdat,hlb])
 have HLB:=Lib.hid hlb
 clear HPICK
 go_enter Tryz.func39,Tryz.ntmps39
 go_wp2_with fail
 generalize ((w.alloc (.cells #[.string t.dof,.string t.name,.slice t.at_ t.args.length t.cap] 25)).alloc (.cells #[.string d,.string s,.int .i64 n,.slice Ap ps.length cp] 28)) = w0 at HB0 K1 K2 ⊢
 refine Calls.mono (HCD.out _ HB0.out) ?_
 rintro e w1 ⟨rfl,hb1⟩
 rw [HFORM.out]
 have HB1:=Lib.hid (HB0.out.trans (hb1.mono HB0.out.size))
 have K11:=Lib.hid (K1.out.below hb1 K1.out.lt)
 have K21:=Lib.hid (K2.out.below hb1 K2.out.lt)
 generalize (dtFound l t.name).2 = fnd at *
 clear hb1
 go_wp2_with fail
 have HB2:=Lib.hid (HB1.out.alloc HB1.out.size (.cells #[.string nm,.slice A9 cs.length c9] 111))
 have K12:=Lib.hid (K11.out.alloc (.cells #[.string nm,.slice A9 cs.length c9] 111))
 have K22:=Lib.hid (K21.out.alloc (.cells #[.string nm,.slice A9 cs.length c9] 111))
 generalize w1.alloc (.cells #[.string nm,.slice A9 cs.length c9] 111) = w2 at HB2 K12 K22 ⊢
 go_loopw [95] (fun iv wr => ∃ k : Nat,iv = .int .i64 k ∧ k ≤ cs.length ∧ Hid (Below w2.heap.size w2 wr) ∧ Hid (∀ j x,j < k → cs[j]? = some x → (fun c : Cn => tdat && (c.name.toList == s.toList && (c.has == lb))) x = false)) (fun iv _ => cs.length - (intOf iv).toNat)
 case atStart => exact ⟨0,rfl,Nat.zero_le _,Below.refl _ _,Lib.hid fun j x hj => absurd hj (Nat.not_lt_zero _)⟩
 case round =>
  obtain ⟨k,rfl,hk,HC,HN⟩:=hrel
  have HBW:=Lib.hid (HB2.out.trans (HC.out.mono HB2.out.size))
  by_cases hlt : k < cs.length
  ·obtain ⟨x,b5,off5,hq5,hm5,hat5,hb5,z0,z1,z2,z3,z4⟩:=Cn.arg_at HR9.out HBW.out hlt
   have HQ5:=Lib.hid hq5
   have HA5:=Lib.hid hat5
   rw [hat5]
   have HIN:=Lib.hid (HX9.out x hm5)
   have hnamel:=(HX9.out x hm5).1.1
   have KA:=Lib.hid ((K12.out.below HC.out K12.out.lt).alloc (.cells #[.string x.name,.bool x.has,.string x.ty.dof,.string x.ty.name,.slice x.ty.at_ x.ty.args.length x.ty.cap] 117))
   have KB:=Lib.hid ((K22.out.below HC.out K22.out.lt).alloc (.cells #[.string x.name,.bool x.has,.string x.ty.dof,.string x.ty.name,.slice x.ty.at_ x.ty.args.length x.ty.cap] 117))
   obtain ⟨y0,y1,y2⟩:=(K12.out.below HC.out K12.out.lt).three
   obtain ⟨v0,v1,v2,v3⟩:=(K22.out.below HC.out K22.out.lt).four
   have yl:=(K12.out.below HC.out K12.out.lt).lt
   have vl:=(K22.out.below HC.out K22.out.lt).lt
   have HBC:=Lib.hid (HC.out.alloc HC.out.size (.cells #[.string x.name,.bool x.has,.string x.ty.dof,.string x.ty.name,.slice x.ty.at_ x.ty.args.length x.ty.cap] 117))
   have HKX:=Lib.hid (Blk.new wr #[.string x.name,.bool x.has,.string x.ty.dof,.string x.ty.name,.slice x.ty.at_ x.ty.args.length x.ty.cap] 117)
   clear hq5
   obtain ⟨tnm,hnm⟩ : ∃ y,(x.name.toList == s.toList) = y:=⟨_,rfl⟩
   obtain ⟨hs,hhs⟩ : ∃ y,x.has = y:=⟨_,rfl⟩
   have HNM:=Lib.hid (And.intro hnm hhs)
   rw [hhs] at z1 HKX HBC KA KB
   cases tdat
   case false =>
    go_wp2_with fail
    exact ⟨⟨k + 1,by go_num,by omega,HBC.out,Lib.hid (not_before HN.out HQ5.out (by simp))⟩,by simp [intOf]; omega⟩
   case true =>
    cases tnm
    case false =>
     go_wp2_with fail
     exact ⟨⟨k + 1,by go_num,by omega,HBC.out,Lib.hid (not_before HN.out HQ5.out (by simp [HNM.out.1]))⟩,by simp [intOf]; omega⟩
    case true =>
     cases hs <;> cases lb
     ·have HPK:=Lib.hid (show pickC l t s ps.length = some x by rw [HPICK2.out,find_hit HQ5.out (by simp [HNM.out.1,HNM.out.2]) HN.out])
      have HR:=Lib.hid (show res = true by rw [HRES.out,HPK.out]; simp only [HNM.out.2]; rfl)
      have hbox : ∀ W,Below (wr.alloc (.cells #[.string x.name,.bool false,.string x.ty.dof,.string x.ty.name,.slice x.ty.at_ x.ty.args.length x.ty.cap] 117)).heap.size (wr.alloc (.cells #[.string x.name,.bool false,.string x.ty.dof,.string x.ty.name,.slice x.ty.at_ x.ty.args.length x.ty.cap] 117)) W → SX0 wr.heap.size W:=fun W hW => by
       have k1:=HKX.out.below hW HKX.out.lt
       exact ⟨k1.cell 1,k1.lt⟩
      have HBOX:=Lib.hid hbox
      clear hbox
      go_wp2_with fail
      generalize hwx : wr.alloc (.cells #[.string x.name,.bool false,.string x.ty.dof,.string x.ty.name,.slice x.ty.at_ x.ty.args.length x.ty.cap] 117) = wx at HBOX HBC ⊢
      refine region_mix (SX0 wr.heap.size) [(0,true),(1,true),(2,true),(3,true),(4,true),(5,true),(6,true),(7,true),(8,true),(9,true),(10,true),(11,false),(12,false),(13,false)] 12 (by kernel_rfl) (by kernel_rfl) (HBOX.out _ (Below.refl _ _).drew) ?_
      simp only [pickM,List.filterMap_cons,List.getElem?_cons_zero,List.getElem?_cons_succ,List.filterMap_nil,Option.map_some]
      iterate 4
       refine wpMix_read ?_ (by rfl) (fun W hW => ?_) ?_
       rotate_left
       ·unfold SX0 at hW
        go_simp
        try with_reducible rfl
       simp only [Act.put,List.setIfInBounds_toArray,List.set_cons_zero,List.set_cons_succ]
      iterate 7
       refine wpMix_none (by rfl) ?_
       simp only [Act.put,List.setIfInBounds_toArray,List.set_cons_zero,List.set_cons_succ]
      refine wpMix_skip (by rfl) (HBOX.out _ (Below.refl _ _).drew) ?_
      simp only [Act.put,List.setIfInBounds_toArray,List.set_cons_zero,List.set_cons_succ]
      iterate 2
       refine wpMix_step rfl (fun K hK => ?_)
       go_simp
       refine hK _ _ (fun _ => HBOX.out _ (Below.refl _ _).drew) ?_
       clear hK K
      refine wpMix_nil ?_
      refine NoPanic.normal ?_
      go_wp2_with fail
      go_ret
      exact ⟨by rw [HR.out]; rfl,HB2.out.trans (HBC.out.drew.mono HB2.out.size)⟩
     ·go_wp2_with fail
      exact ⟨⟨k + 1,by go_num,by omega,HBC.out,Lib.hid (not_before HN.out HQ5.out (by simp [HNM.out.1,HNM.out.2]))⟩,by simp [intOf]; omega⟩
     ·go_wp2_with fail
      exact ⟨⟨k + 1,by go_num,by omega,HBC.out,Lib.hid (not_before HN.out HQ5.out (by simp [HNM.out.1,HNM.out.2]))⟩,by simp [intOf]; omega⟩
     ·have HPK:=Lib.hid (show pickC l t s ps.length = some x by rw [HPICK2.out,find_hit HQ5.out (by simp [HNM.out.1,HNM.out.2]) HN.out])
      obtain ⟨p0,hp0⟩:=one_list (show ps.length = 1 by have h9:=HLB.out; rw [beq_iff_eq] at h9; omega)
      subst hp0
      have HR:=Lib.hid (show res = p0.isOf l x.ty by rw [HRES.out,HPK.out]; simp only [HNM.out.2,isOfL]; simp)
      obtain ⟨b2,o2,hAp,hb2,hpc⟩:=one_row HPR.out
      subst hAp
      have HPC:=Lib.hid hpc
      have hbox : ∀ W,Below (wr.alloc (.cells #[.string x.name,.bool true,.string x.ty.dof,.string x.ty.name,.slice x.ty.at_ x.ty.args.length x.ty.cap] 117)).heap.size (wr.alloc (.cells #[.string x.name,.bool true,.string x.ty.dof,.string x.ty.name,.slice x.ty.at_ x.ty.args.length x.ty.cap] 117)) W → SX wr.heap.size (w.heap.size + 1) x d s n b2 o2 cp p0 W:=fun W hW => by
       have k1:=HKX.out.below hW HKX.out.lt
       have k2:=KB.out.below hW KB.out.lt
       have hb:=(HB2.out.trans (HBC.out.mono HB2.out.size)).trans (hW.mono (Nat.le_trans HB2.out.size HBC.out.size))
       exact ⟨k1.cell 0,by rw [HNM.out.2]; exact k1.cell 1,k1.cell 2,k1.cell 3,k1.cell 4,k1.lt,k2.cell 3,k2.lt,HPC.out W hb⟩
      have HBOX:=Lib.hid hbox
      have HX1:=Lib.hid HIN.out.1.2
      have HX2:=Lib.hid (show x.ty.well (kindB .con) = true by obtain ⟨d9,hd9,hx9⟩:=HIN.out.2; exact HTY.out d9 hd9 x hx9 HNM.out.2)
      have HC0:=Lib.hid (fun (W : World) (hW : Below w.heap.size w W) => HPS.out p0 (by simp) x.ty W (HD.out.next hW) ((HP.out p0 (by simp)).next hW) (HPW.out p0 (by simp)) (HX1.out.next hW) HX2.out)
      generalize p0.isOf l x.ty = r0 at HC0 HR
      clear hbox hpc
      unfold Ty.val Pt.val at HC0
      simp only [List.length_cons,List.length_nil,Nat.zero_add] at *
      go_wp2_with fail
      generalize hwx : wr.alloc (.cells #[.string x.name,.bool true,.string x.ty.dof,.string x.ty.name,.slice x.ty.at_ x.ty.args.length x.ty.cap] 117) = w0 at HBOX HBC ⊢
      refine region_mix (SX wr.heap.size (w.heap.size + 1) x d s n b2 o2 cp p0) [(0,true),(1,true),(2,true),(3,true),(4,true),(5,true),(6,true),(7,true),(8,true),(9,true),(10,true),(11,false),(12,false),(13,false)] 12 (by kernel_rfl) (by kernel_rfl) (HBOX.out _ (Below.refl _ _).drew) ?_
      simp only [pickM,List.filterMap_cons,List.getElem?_cons_zero,List.getElem?_cons_succ,List.filterMap_nil,Option.map_some]
      iterate 11
       refine wpMix_read ?_ (by rfl) (fun W hW => ?_) ?_
       rotate_left
       ·unfold SX at hW
        go_simp
        try with_reducible rfl
       simp only [Act.put,List.setIfInBounds_toArray,List.set_cons_zero,List.set_cons_succ]
      refine wpMix_stepw (by rfl) (fun K hK => ?_)
      go_simp
      refine Calls.mono (HC0.out _ (HB2.out.trans (HBC.out.drew.mono HB2.out.size))) ?_
      rintro e w5 ⟨rfl,hb5⟩
      have HD5:=Lib.hid (((Below.refl w0.heap.size w0).drew).trans (hb5.mono ((Below.refl w0.heap.size w0).drew).size))
      clear hb5
      refine hK _ _ (fun _ => HBOX.out _ HD5.out) ?_
      clear hK K
      iterate 2
       refine wpMix_step rfl (fun K hK => ?_)
       go_simp
       refine hK _ _ (fun _ => HBOX.out _ HD5.out) ?_
       clear hK K
      refine wpMix_nil ?_
      refine NoPanic.normal ?_
      go_wp2_with fail
      go_ret
      exact ⟨by rw [HR.out]; simp,HB2.out.trans ((HBC.out.trans (HD5.out.mono HBC.out.size)).mono HB2.out.size)⟩
  ·have hk2 : k = cs.length:=by omega
   have hn:=HN.out
   rw [hk2] at hn
   have HR:=Lib.hid (show res = false by rw [HRES.out,HPICK2.out,find_miss hn])
   clear hn hk2
   go_wp2_with fail
   go_ret
   exact ⟨by rw [HR.out]; rfl,HBW.out⟩
set_option maxRecDepth 100000 in
set_option maxHeartbeats 8000000 in
theorem isOf_any (A : Option Addr) (l : List Dt) (c : Nat) (hty : ∀ d ∈ l,∀ x ∈ d.cons,x.has = true → x.ty.well (kindB .con) = true) : ∀ p : Pt,IsOfC A l c p:=by
 refine Pt.induct fun d s n Ap cp ps ih t w hd hp hw ht htw => ?_
 have HB0:=Lib.hid (((Below.refl w.heap.size w).alloc (Nat.le_refl _) (.cells #[.string t.dof,.string t.name,.slice t.at_ t.args.length t.cap] 25)).alloc (by simp) (.cells #[.string d,.string s,.int .i64 n,.slice Ap ps.length cp] 28))
 have hmk:=Pt.isOf_mk l d s n Ap cp ps t
 have HMK:=Lib.hid hmk
 have hnode:=(show nodeOk d s n ps.length = true by rw [Pt.wellB_mk,Bool.and_eq_true] at hw; exact hw.1)
 have HNODE:=Lib.hid hnode
 clear hmk hnode
 obtain ⟨t1,g1⟩ : ∃ x,(d.toList == [97,110,121]) = x:=⟨_,rfl⟩
 cases t1
 case true =>
  have HR:=Lib.hid (show (Pt.mk d s n Ap cp ps).isOf l t = true by rw [HMK.out]; simp [isDo,g1])
  generalize (Pt.mk d s n Ap cp ps).isOf l t = res at HR ⊢
  clear HMK ih hd hp hw ht htw
  unfold Ty.val Pt.val
  simp only [Pt.dof,Pt.name,Pt.num,Pt.at_,Pt.cap,Pt.args]
  go_enter Tryz.func39,Tryz.ntmps39
  go_wp2_with fail
  go_ret
  exact ⟨by rw [HR.out]; rfl,HB0.out⟩
 obtain ⟨t2,g2⟩ : ∃ x,(d.toList == [118,97,114]) = x:=⟨_,rfl⟩
 cases t2
 case true =>
  have HR:=Lib.hid (show (Pt.mk d s n Ap cp ps).isOf l t = true by rw [HMK.out]; simp [isDo,g1,g2])
  generalize (Pt.mk d s n Ap cp ps).isOf l t = res at HR ⊢
  clear HMK ih hd hp hw ht htw
  unfold Ty.val Pt.val
  simp only [Pt.dof,Pt.name,Pt.num,Pt.at_,Pt.cap,Pt.args]
  go_enter Tryz.func39,Tryz.ntmps39
  go_wp2_with fail
  go_ret
  exact ⟨by rw [HR.out]; rfl,HB0.out⟩
 obtain ⟨te,hte⟩ : ∃ x,(t.dof.toList == d.toList) = x:=⟨_,rfl⟩
 obtain ⟨t3,g3⟩ : ∃ x,(d.toList == [105,110,116]) = x:=⟨_,rfl⟩
 cases t3
 case true =>
  have HR:=Lib.hid (show (Pt.mk d s n Ap cp ps).isOf l t = te by rw [HMK.out]; simp [isDo,g1,g2,g3,hte])
  generalize (Pt.mk d s n Ap cp ps).isOf l t = res at HR ⊢
  clear HMK ih hd hp hw ht htw
  unfold Ty.val Pt.val
  simp only [Pt.dof,Pt.name,Pt.num,Pt.at_,Pt.cap,Pt.args]
  go_enter Tryz.func39,Tryz.ntmps39
  go_wp2_with fail
  go_ret
  exact ⟨by rw [HR.out]; rfl,HB0.out⟩
 obtain ⟨t4,g4⟩ : ∃ x,(d.toList == [98,111,111,108]) = x:=⟨_,rfl⟩
 cases t4
 case true =>
  have HR:=Lib.hid (show (Pt.mk d s n Ap cp ps).isOf l t = te by rw [HMK.out]; simp [isDo,g1,g2,g3,g4,hte])
  generalize (Pt.mk d s n Ap cp ps).isOf l t = res at HR ⊢
  clear HMK ih hd hp hw ht htw
  unfold Ty.val Pt.val
  simp only [Pt.dof,Pt.name,Pt.num,Pt.at_,Pt.cap,Pt.args]
  go_enter Tryz.func39,Tryz.ntmps39
  go_wp2_with fail
  go_ret
  exact ⟨by rw [HR.out]; rfl,HB0.out⟩
 obtain ⟨t5,g5⟩ : ∃ x,(d.toList == [117,110,105,116]) = x:=⟨_,rfl⟩
 cases t5
 case true =>
  have HR:=Lib.hid (show (Pt.mk d s n Ap cp ps).isOf l t = te by rw [HMK.out]; simp [isDo,g1,g2,g3,g4,g5,hte])
  generalize (Pt.mk d s n Ap cp ps).isOf l t = res at HR ⊢
  clear HMK ih hd hp hw ht htw
  unfold Ty.val Pt.val
  simp only [Pt.dof,Pt.name,Pt.num,Pt.at_,Pt.cap,Pt.args]
  go_enter Tryz.func39,Tryz.ntmps39
  go_wp2_with fail
  go_ret
  exact ⟨by rw [HR.out]; rfl,HB0.out⟩
 obtain ⟨t6,g6⟩ : ∃ x,(d.toList == [110,105,108]) = x:=⟨_,rfl⟩
 cases t6
 case true =>
  obtain ⟨tl,htl⟩ : ∃ x,(t.dof.toList == [108,105,115,116]) = x:=⟨_,rfl⟩
  have HR:=Lib.hid (show (Pt.mk d s n Ap cp ps).isOf l t = tl by rw [HMK.out]; simp [isDo,g1,g2,g3,g4,g5,g6,htl])
  generalize (Pt.mk d s n Ap cp ps).isOf l t = res at HR ⊢
  clear HMK ih hd hp hw ht htw
  unfold Ty.val Pt.val
  simp only [Pt.dof,Pt.name,Pt.num,Pt.at_,Pt.cap,Pt.args]
  go_enter Tryz.func39,Tryz.ntmps39
  go_wp2_with fail
  go_ret
  exact ⟨by rw [HR.out]; rfl,HB0.out⟩
 obtain ⟨t7,g7⟩ : ∃ x,(d.toList == [112,97,105,114]) = x:=⟨_,rfl⟩
 cases t7
 case true =>
  have hl2 : ps.length = 2:=by
   have h:=HNODE.out
   unfold nodeOk at h
   simp only [g1,g2,g3,g4,g5,g6,g7,Bool.or_false,Bool.false_or,Bool.false_eq_true,if_false,if_true,Bool.true_or,Bool.and_eq_true,beq_iff_eq] at h
   exact h.2
  obtain ⟨p0,p1,rfl⟩:=two_list hl2
  exact isOf_pair A l c p0 p1 (ih p0 (by simp)) (ih p1 (by simp)) d s n Ap cp g7 t w hd hp hw ht htw
 obtain ⟨t8,g8⟩ : ∃ x,(d.toList == [99,111,110,115]) = x:=⟨_,rfl⟩
 cases t8
 case true =>
  have hl2 : ps.length = 2:=by
   have h:=HNODE.out
   unfold nodeOk at h
   simp only [g1,g2,g3,g4,g5,g6,g7,g8,Bool.or_false,Bool.false_or,Bool.false_eq_true,if_false,if_true,Bool.or_true,Bool.and_eq_true,beq_iff_eq] at h
   exact h.2
  obtain ⟨p0,p1,rfl⟩:=two_list hl2
  exact isOf_cons A l c p0 p1 (ih p0 (by simp)) (ih p1 (by simp)) d s n Ap cp g8 t w hd hp hw ht htw
 exact isOf_con A l c hty d s n Ap cp ps ih g1 g2 g3 g4 g5 g6 g7 g8 t w hd hp hw ht htw
end Go.Proofs.YtjeggkfgdhepaaaGreatDoor

namespace Go.Proofs.YtjeggkfgdhepaaaGreatDoor
open Go.RowKit
open Go.Proofs
theorem there_well {l : List Dt} {t : Ty} (h : t.there (dTo l l.length) = true) : t.well (kindB .con) = true:=by
 unfold Ty.there Ty.valid at h
 simp only [Bool.and_eq_true] at h
 exact h.1.1
theorem sound_tys {l : List Dt} {t : Ty} (h : soundB l t = true) : t.well (kindB .con) = true ∧ (∀ d ∈ l,∀ x ∈ d.cons,x.has = true → x.ty.well (kindB .con) = true) ∧ distinctB (l.map Dt.name) = true ∧ distinctB ((allCons l).map Cn.name) = true:=by
 have h0:=h
 rw [sound_world,Bool.and_eq_true] at h
 unfold soundB at h0
 simp only [Bool.and_eq_true] at h0
 refine ⟨there_well h.2,fun d hd x hx hh => ?_,h0.2.1,h0.2.2.1⟩
 have hw:=h.1
 unfold worldB at hw
 simp only [Bool.and_eq_true,List.all_eq_true] at hw
 have:=hw.2.2.2.2 x (by unfold allCons; exact List.mem_flatMap.2 ⟨d,hd,hx⟩)
 rw [hh] at this
 exact there_well (by simpa using this)
end Go.Proofs.YtjeggkfgdhepaaaGreatDoor

namespace Go.Proofs.YtjeggkfgdhepaaaGreatDoor
set_option maxRecDepth 100000
open Go.ChangeShapes Go.WideShapes Go.ChangeAt Go.RowKit
theorem own : ownKnob Tryz.prog.godebug = none:=by kernel_rfl
theorem laidOut : laidOutB Tryz.prog = true:=by kernel_rfl
abbrev laidM : List (String × DataW Unit):=[("math/bits.deBruijn32tab",Rows.laid_math_bits_deBruijn32tab),("math/bits.deBruijn64tab",Rows.laid_math_bits_deBruijn64tab),("internal/strconv.uint64pow10",Rows.laid_internal_strconv_uint64pow10),("unicode/utf8.acceptRanges",Rows.laid_unicode_utf8_acceptRanges),("strconv.ErrRange",Rows.laid_strconv_ErrRange),("strconv.ErrSyntax",Rows.laid_strconv_ErrSyntax),("unicode.White_Space",Rows.laid_unicode_White_Space),("strings.asciiSpace",Rows.laid_strings_asciiSpace),("unicode/utf8.first",Rows.laid_unicode_utf8_first)]
set_option maxRecDepth 100000 in
theorem space_is : (Rows.laid_strings_asciiSpace : DataW Unit) = Lib.tabData .u8 Lib.asciiSpaceTab:=by kernel_rfl
theorem space_tab {W : World} (h : laidMetH Tryz.prog laidM W) : Lib.TabIs Tryz.prog W "strings.asciiSpace" .u8 Lib.asciiSpaceTab:=by
 rw [MakeChecks.laidMetH_plain _ _ _ (by kernel_rfl)] at h
 have h2:=h.tail.tail.tail.tail.tail.tail.tail
 rw [space_is] at h2
 exact Lib.tabIs_of_head (g:=0) (t:=195) (e:=5) (n:=256) (by kernel_rfl) (by kernel_rfl) (by kernel_rfl) (by kernel_rfl) (by kernel_rfl) (by kernel_rfl) h2
theorem env_of {W : World} (hL : laidMetH Tryz.prog laidM W) (hsh : W.ShapedOpen Tryz.prog) : Env W:=by
 refine ⟨space_tab hL, ?_, ?_⟩
 ·exact cell_of_shapedOpen_int (P:=Tryz.prog) (g:=1) (t:=3) (zero:=#[.int .i64 0]) hsh (of_decide_eq_true (by kernel_rfl)) (by kernel_rfl) rfl (by kernel_rfl) (by kernel_rfl) Tryz.underlying3
 ·obtain ⟨cs,hh,-⟩:=hsh.1 3 #[.nilIface] 192 (of_decide_eq_true (by kernel_rfl)) (by kernel_rfl)
  have:=(Array.getElem?_eq_some_iff.1 hh).1
  omega
noncomputable abbrev witW (os : Os) (args : Array Value) : World:=(World.laidAll Tryz.prog os laidM).forCall (fun _ _ => 0) ⟨#[],args,[]⟩
set_option maxRecDepth 100000 in
theorem wit_laid (os : Os) (args : Array Value) : laidMet Tryz.prog laidM (witW os args).memory:=laidMet_laidAll _ (by kernel_rfl) (by kernel_rfl)
theorem wit_laidH (os : Os) (args : Array Value) : laidMetH Tryz.prog laidM (witW os args).memory:=by
 rw [MakeChecks.laidMetH_plain _ _ _ (by kernel_rfl)]
 exact wit_laid os args
set_option maxRecDepth 100000 in
theorem wit_shaped (os : Os) (args : Array Value) : (witW os args).Shaped Tryz.prog:=World.shaped_of_ZipB (by kernel_rfl) (by kernel_rfl)
theorem wit_row {H : Type} {enc : TypeId × Value → H} {os : Os} {f : FuncId} {fn : Func} {s : OpenSpec} (args : Array Value)
  (hok : Input.okWideB Tryz.prog (witW os args) f ⟨#[],args,[]⟩ = true) (hrow : s.preRow enc Tryz.prog fn [] false laidM (witW os args).memory args) :
  ∃ (w : World) (tape : Tape) (i : Input),w.os = os ∧ (w.forCall tape i).Shaped Tryz.prog ∧ i.vars = [] ∧ Input.okWide Tryz.prog (w.forCall tape i) .any w.heap.size f i ∧
   s.preRow enc Tryz.prog fn [] false laidM (w.forCall tape i).memory i.args ∧ ({} : Assume).holds Tryz.prog (lone (Frame.enter Tryz.prog f i.args .normal) [] (w.forCall tape i)):=
 ⟨World.laidAll Tryz.prog os laidM,fun _ _ => 0,⟨#[],args,[]⟩,World.laidAll_os _ _ _,wit_shaped os args,(Input.okWide_of_okWideB (base:=0) hok).1,(Input.okWide_of_okWideB hok).2,hrow,by
  simp only [Assume.holds]
  exact ⟨by simp,by simp,by simp,by simp,by simp⟩⟩
section
variable {H : Type} {enc : TypeId × Value → H} {W : World} {base : Nat}
theorem arg_ty {v : Value} {d : DataW H} {p : List MemPlace} (hval : Value.okWide Tryz.prog W .any base 25 v) (h : DataW.Trod enc Tryz.prog W 0 (fun _ => true) true 25 v d p) (hb : blk d ≤ 1048576) :
  ∃ q : Ty,v = q.val ∧ q.In W.heap.size W ∧ q.count ≤ blk d ∧ q.capB:=by
 obtain ⟨cs,rfl,hsz⟩:=okWide_struct Tryz.underlying25 hval
 obtain ⟨fuel,hf⟩:=h
 obtain ⟨q,hq,hg⟩:=open_ty fuel _ _ hf
 obtain ⟨h1,h2,h3⟩:=hg hb
 refine ⟨q, ?_,h1,h2,h3⟩
 have e : cs = q.cells.toArray:=by rw [← hq]; rfl
 rw [e]
 rfl
theorem arg_pts {v : Value} {d : DataW H} {p : List MemPlace} (hval : Value.okWide Tryz.prog W .any base 26 v) (h : DataW.Trod enc Tryz.prog W 0 (fun _ => true) true 26 v d p) (hb : blk d ≤ 1048576) :
  ∃ A c l,v = .slice A (List.length l) c ∧ PtsIn W.heap.size W A l ∧ l.length ≤ c ∧ (A = none → c = 0) ∧ l.length ≤ 1048576 ∧ c ≤ 1048576 ∧ (l.map Pt.count).sum ≤ 1048576 ∧ ∀ p ∈ l,p.capB:=by
 obtain ⟨a0,len0,cap0,rfl⟩:=okWide_slice Tryz.underlying26 hval
 obtain ⟨fuel,hf⟩:=h
 exact open_pts hf hb
theorem arg_dts {v : Value} {d : DataW H} {p : List MemPlace} (hval : Value.okWide Tryz.prog W .any base 22 v) (h : DataW.Trod enc Tryz.prog W 0 (fun _ => true) true 22 v d p) (hb : blk d ≤ 1048576) :
  ∃ A c l,v = .slice A (List.length l) c ∧ DtsIn W.heap.size W A l ∧ l.length ≤ c ∧ (A = none → c = 0) ∧ c ≤ 1048576 ∧ ∀ d ∈ l,∀ x ∈ d.cons,x.ty.count ≤ 1048576 ∧ x.ty.capB:=by
 obtain ⟨a0,len0,cap0,rfl⟩:=okWide_slice Tryz.underlying22 hval
 obtain ⟨fuel,hf⟩:=h
 obtain ⟨A,c,l,hv,hrow,hall,hl,hA,hlen,hc,hsum⟩:=open_dts hf hb
 exact ⟨A,c,l,hv,⟨hrow,fun d hd => (hall d hd).1,hlen,by unfold consN; rw [List.take_length]; exact hsum⟩,hl,hA,hc,fun d hd => (hall d hd).2.2.2⟩
end
end Go.Proofs.YtjeggkfgdhepaaaGreatDoor

namespace Go.Proofs.YtjeggkfgdhepaaaGreatDoor
open Go.RowKit
open Go.Proofs
def opaqueT (t : Ty) : Bool:=isDo [116,101,120,116] t.dof || (isDo [97,114,114,97,121] t.dof || isDo [102,110] t.dof)
def partsD (l : List Dt) (t : Ty) (d s : ByteArray) : List Ty:=
 if isDo [112,97,105,114] d then t.args
 else if isDo [99,111,110,115] d then t.args.take 1 ++ [t]
 else if isDo [99,111,110] d then (match (consOf l t.name).find? (fun c => c.name.toList == s.toList && c.has) with | some c => [c.ty] | none => [])
 else []
def Pt.isVal (l : List Dt) : Pt → Ty → Bool
 | .mk d s n a c ps => fun t =>
  let sub:=ps.map fun q => Pt.isVal l q
  if opaqueT t || wildD d then opaqueT t && isDo [97,110,121] d
  else (Pt.mk d s n a c ps).isOf l t && (sub.zipWith (fun f u => f u) (partsD l t d s)).all id
def isValL (l : List Dt) (ps : List Pt) (ts : List Ty) : Bool:=((ps.map fun q => q.isVal l).zipWith (fun f u => f u) ts).all id
theorem Pt.isVal_mk (l : List Dt) (d s : ByteArray) (n : Int) (a : Option Addr) (c : Nat) (ps : List Pt) (t : Ty) : (Pt.mk d s n a c ps).isVal l t =
  if opaqueT t || wildD d then opaqueT t && isDo [97,110,121] d else (Pt.mk d s n a c ps).isOf l t && isValL l ps (partsD l t d s):=by
 rw [Pt.isVal]
 rfl
inductive F2 {α β : Type} (R : α → β → Prop) : List α → List β → Prop
 | nil : F2 R [] []
 | cons {a : α} {b : β} {l : List α} {m : List β} : R a b → F2 R l m → F2 R (a :: l) (b :: m)
def Val (l : List Dt) (t : Ty) (v : Pt) : Prop:=v.wellB = true ∧ v.isVal l t = true
def Vals (l : List Dt) (ts : List Ty) (vs : List Pt) : Prop:=F2 (Val l) ts vs
def POk (l : List Dt) (t : Ty) (p : Pt) : Prop:=p.wellB = true ∧ p.isOf l t = true
def POks (l : List Dt) (ts : List Ty) (ps : List Pt) : Prop:=F2 (POk l) ts ps
def okT (l : List Dt) (t : Ty) : Prop:=t.well (kindB .con) = true ∧ t.known (hasDt l) = true
structure Right (l : List Dt) : Prop where
 names : distinctB (l.map Dt.name) = true
 cnames : distinctB ((allCons l).map Cn.name) = true
 cons : ∀ d ∈ l,0 < d.cons.length ∧ ∀ c ∈ d.cons,kindB .con c.name = true ∧ (c.has = true → okT l c.ty)
theorem Vals.length {l : List Dt} {ts : List Ty} {vs : List Pt} (h : Vals l ts vs) : ts.length = vs.length:=by
 induction h with
 | nil => rfl
 | cons _ _ ih => simp [ih]
theorem POks.length {l : List Dt} {ts : List Ty} {vs : List Pt} (h : POks l ts vs) : ts.length = vs.length:=by
 induction h with
 | nil => rfl
 | cons _ _ ih => simp [ih]
theorem f2_append {α β : Type} {R : α → β → Prop} {a : List α} {b : List α} {c d : List β} (h1 : F2 R a c) (h2 : F2 R b d) : F2 R (a ++ b) (c ++ d):=by
 induction h1 with
 | nil => exact h2
 | cons h _ ih => exact .cons h ih
theorem f2_split {α β : Type} {R : α → β → Prop} : ∀ {a b : List α} {c : List β},F2 R (a ++ b) c → ∃ c1 c2,c = c1 ++ c2 ∧ F2 R a c1 ∧ F2 R b c2
 | [],b,c,h => ⟨[],c,rfl,.nil,h⟩
 | x :: a,b,c,h => by
  cases h with
  | cons h1 h2 =>
   obtain ⟨c1,c2,rfl,k1,k2⟩:=f2_split h2
   exact ⟨_ :: c1,c2,rfl,.cons h1 k1,k2⟩
theorem matchAll_append {a b c d : List Pt} (h : a.length = c.length) : matchAll (a ++ b) (c ++ d) = (matchAll a c && matchAll b d):=by
 unfold matchAll
 rw [List.zipWith_append h,List.all_append]
theorem matchAll_cons (p v : Pt) (a b : List Pt) : matchAll (p :: a) (v :: b) = (p.matchB v && matchAll a b):=rfl
theorem wild_of (p : Pt) : wildD p.dof = true → ∀ v,p.matchB v = true:=by
 intro h v
 obtain ⟨d,s,n,a,c,ps⟩:=p
 rw [Pt.matchB_mk]
 simp only [Pt.dof] at h
 rw [h]
 rfl
theorem tame_match (p v : Pt) (h : wildD p.dof = false) : p.matchB v = (p.dof.toList == v.dof.toList && p.name.toList == v.name.toList && p.num == v.num && p.args.length == v.args.length && matchAll p.args v.args):=by
 obtain ⟨d,s,n,a,c,ps⟩:=p
 rw [Pt.matchB_mk]
 simp only [Pt.dof,Pt.name,Pt.num,Pt.args] at *
 rw [h,Bool.false_or]
theorem matchAll_any (k : Nat) (vs : List Pt) : matchAll (List.replicate k anyPt) vs = true:=by
 unfold matchAll
 rw [List.all_eq_true]
 intro x hx
 obtain ⟨i,hi⟩:=List.getElem?_of_mem hx
 rw [List.getElem?_zipWith] at hi
 have hw : wildD anyPt.dof = true:=by
  show wildD ⟨#[97,110,121]⟩ = true
  unfold wildD
  rw [any_list]
  rfl
 cases h1 : (List.replicate k anyPt)[i]? with
 | none => rw [h1] at hi; simp at hi
 | some q =>
  have hq : q = anyPt:=List.eq_of_mem_replicate (List.mem_of_getElem? h1)
  cases h2 : vs[i]? with
  | none => rw [h1,h2] at hi; simp at hi
  | some v =>
   rw [h1,h2] at hi
   simp only [Option.map_some,Option.some.injEq] at hi
   rw [← hi,hq,wild_of _ hw]
   rfl
structure Form where
 dof : ByteArray
 name : ByteArray
 num : Int
 types : List Ty
def Form.is (f : Form) (p : Pt) : Bool:=p.dof.toList == f.dof.toList && (p.name.toList == f.name.toList && p.num == f.num)
def Head (v : Pt) (f : Form) : Prop:=v.dof = f.dof ∧ v.name = f.name ∧ v.num = f.num
theorem head_is {f : Form} {p : Pt} : f.is p = true ↔ Head p f:=by
 unfold Form.is Head
 simp only [Bool.and_eq_true,beq_iff_eq,bytes_iff]
def opened (f : Form) : List Pt → Option (List Pt)
 | [] => none
 | p :: r => if wildD p.dof then some (List.replicate f.types.length anyPt ++ r) else if f.is p then some (p.args ++ r) else none
theorem opened_cons (f : Form) (p : Pt) (r : List Pt) : opened f (p :: r) = if wildD p.dof then some (List.replicate f.types.length anyPt ++ r) else if f.is p then some (p.args ++ r) else none:=rfl
structure FormOk (l : List Dt) (t : Ty) (f : Form) : Prop where
 tame : wildD f.dof = false
 val : ∀ v,Head v f → (Val l t v ↔ Vals l f.types v.args)
 pat : ∀ p,Head p f → POk l t p → POks l f.types p.args
 types : ∀ u ∈ f.types,okT l u
structure FormsOk (l : List Dt) (t : Ty) (col : List Pt) (fs : List Form) : Prop where
 each : ∀ f ∈ fs,FormOk l t f
 all : ∀ v,Val l t v → ∃ f ∈ fs,∃ v',Head v' f ∧ Val l t v' ∧ ∀ p ∈ col,p.matchB v' = p.matchB v
def Useful (l : List Dt) (ts : List Ty) (rows : List (List Pt)) (row : List Pt) : Prop:=∃ vs,Vals l ts vs ∧ matchAll row vs = true ∧ ∀ r ∈ rows,matchAll r vs = false
theorem useful_nil (l : List Dt) (rows : List (List Pt)) (row : List Pt) (hr : ∀ r ∈ rows,POks l [] r) : Useful l [] rows row ↔ rows = []:=by
 constructor
 ·rintro ⟨vs,hv,-,hn⟩
  cases rows with
  | nil => rfl
  | cons r rows =>
   have h1:=hr r (by simp)
   cases h1
   cases hv
   have:=hn [] (by simp)
   simp [matchAll] at this
 ·rintro rfl
  exact ⟨[],.nil,by simp [matchAll],fun r hr => by cases hr⟩
theorem useful_flat (l : List Dt) (t : Ty) (ts : List Ty) (rows : List (List Pt)) (p : Pt) (row : List Pt) (hrows : ∀ r ∈ rows,POks l (t :: ts) r) (hp : wildD p.dof = true) (hw : ∀ r ∈ rows,∀ q r',r = q :: r' → wildD q.dof = true) :
  Useful l (t :: ts) rows (p :: row) ↔ (∃ v,Val l t v) ∧ Useful l ts (rows.map List.tail) row:=by
 constructor
 ·rintro ⟨vs,hv,hm,hn⟩
  cases hv with
  | cons h1 h2 =>
   rename_i v vs
   refine ⟨⟨v,h1⟩,vs,h2, ?_, ?_⟩
   ·rw [matchAll_cons,Bool.and_eq_true] at hm
    exact hm.2
   ·intro r hr
    obtain ⟨r0,hr0,rfl⟩:=List.mem_map.1 hr
    have:=hrows r0 hr0
    cases this with
    | cons k1 k2 =>
     rename_i q r'
     have h3:=hn _ hr0
     rw [matchAll_cons,wild_of q (hw _ hr0 q r' rfl)] at h3
     simpa using h3
 ·rintro ⟨⟨v,h1⟩,vs,h2,hm,hn⟩
  refine ⟨v :: vs,.cons h1 h2, ?_, ?_⟩
  ·rw [matchAll_cons,wild_of p hp,hm]
   rfl
  ·intro r hr
   have:=hrows r hr
   cases this with
   | cons k1 k2 =>
    rename_i q r'
    rw [matchAll_cons,hn r' (List.mem_map.2 ⟨_,hr,rfl⟩),Bool.and_false]
theorem opened_match {l : List Dt} {t : Ty} {f : Form} (hf : FormOk l t f) {v : Pt} (hv : Head v f) (hval : Val l t v) {p : Pt} {r vs : List Pt} (hp : POk l t p) :
  matchAll (p :: r) (v :: vs) = (match opened f (p :: r) with | some o => matchAll o (v.args ++ vs) | none => false):=by
 have hargs:=(hf.val v hv).1 hval
 rw [matchAll_cons]
 unfold opened
 cases hw : wildD p.dof with
 | true =>
  simp only [hw,if_true]
  rw [wild_of p hw,matchAll_append (by simp [hargs.length]),matchAll_any]
 | false =>
  simp only [hw,Bool.false_eq_true,if_false]
  rw [tame_match p v hw]
  cases hi : f.is p with
  | true =>
   have hh:=head_is.1 hi
   have hpa:=hf.pat p hh hp
   have hlen : p.args.length = v.args.length:=by rw [← hpa.length,← hargs.length]
   simp only [hi,if_true]
   rw [matchAll_append hlen]
   simp [hh.1,hh.2.1,hh.2.2,hv.1,hv.2.1,hv.2.2,hlen]
  | false =>
   simp only [hi,Bool.false_eq_true,if_false]
   have hne : (p.dof.toList == v.dof.toList && p.name.toList == v.name.toList && p.num == v.num) = false:=by
    unfold Form.is at hi
    rw [hv.1,hv.2.1,hv.2.2,Bool.and_assoc]
    exact hi
   rw [hne]
   simp
theorem useful_forms (l : List Dt) (t : Ty) (ts : List Ty) (rows : List (List Pt)) (p : Pt) (row : List Pt) (fs : List Form) (col : List Pt) (hf : FormsOk l t col fs) (hrows : ∀ r ∈ rows,POks l (t :: ts) r) (hrow : POks l (t :: ts) (p :: row))
  (hp : p ∈ col) (hcol : ∀ q r',q :: r' ∈ rows → q ∈ col) :
  Useful l (t :: ts) rows (p :: row) ↔ ∃ f ∈ fs,∃ next,opened f (p :: row) = some next ∧ Useful l (f.types ++ ts) (rows.filterMap (opened f)) next:=by
 have hpo : POk l t p:=by cases hrow with | cons h _ => exact h
 constructor
 ·rintro ⟨vs,hv,hm,hn⟩
  cases hv with
  | cons h1 h2 =>
   rename_i v vs
   obtain ⟨f,hfm,v',hh,hv',hsame⟩:=hf.all v h1
   have hfo:=hf.each f hfm
   have hm' : matchAll (p :: row) (v' :: vs) = true:=by
    rw [matchAll_cons,hsame p hp,← matchAll_cons]
    exact hm
   rw [opened_match hfo hh hv' hpo] at hm'
   cases ho : opened f (p :: row) with
   | none => rw [ho] at hm'; cases hm'
   | some next =>
    rw [ho] at hm'
    refine ⟨f,hfm,next,ho,v'.args ++ vs,f2_append ((hfo.val v' hh).1 hv') h2,hm', ?_⟩
    intro o ho2
    obtain ⟨r,hr,hro⟩:=List.mem_filterMap.1 ho2
    have hpr:=hrows r hr
    cases hpr with
    | cons k1 k2 =>
     rename_i q r'
     have h3:=hn _ hr
     rw [matchAll_cons,← hsame q (hcol q r' hr),← matchAll_cons,opened_match hfo hh hv' k1,hro] at h3
     exact h3
 ·rintro ⟨f,hfm,next,ho,vs,hv,hm,hn⟩
  have hfo:=hf.each f hfm
  obtain ⟨ws,vs',rfl,ha,hv'⟩:=f2_split hv
  have hh : Head (.mk f.dof f.name f.num none 0 ws) f:=⟨rfl,rfl,rfl⟩
  have hval : Val l t (.mk f.dof f.name f.num none 0 ws):=(hfo.val _ hh).2 ha
  refine ⟨_ :: vs',.cons hval hv', ?_, ?_⟩
  ·rw [opened_match hfo hh hval hpo,ho]
   exact hm
  ·intro r hr
   have hpr:=hrows r hr
   cases hpr with
   | cons k1 k2 =>
    rename_i q r'
    rw [opened_match hfo hh hval k1]
    cases hro : opened f (q :: r') with
    | none => rfl
    | some o => exact hn o (List.mem_filterMap.2 ⟨_,hr,hro⟩)
theorem anyPt_ok (l : List Dt) (t : Ty) : POk l t anyPt:=by
 constructor
 ·unfold anyPt
  rw [Pt.wellB_mk]
  unfold nodeOk
  rw [any_list]
  simp [empty_list]
 ·unfold anyPt
  rw [Pt.isOf_mk]
  unfold isDo
  rw [any_list]
  rfl
theorem pOks_any (l : List Dt) : ∀ ts : List Ty,POks l ts (List.replicate ts.length anyPt)
 | [] => .nil
 | t :: ts => .cons (anyPt_ok l t) (pOks_any l ts)
theorem opened_ok {l : List Dt} {t : Ty} {ts : List Ty} {f : Form} (hf : FormOk l t f) {r o : List Pt} (hr : POks l (t :: ts) r) (ho : opened f r = some o) : POks l (f.types ++ ts) o:=by
 cases hr with
 | cons h1 h2 =>
  rename_i p r
  rw [opened_cons] at ho
  cases hw : wildD p.dof with
  | true =>
   rw [hw] at ho
   simp only [if_true,Option.some.injEq] at ho
   rw [← ho]
   exact f2_append (pOks_any l f.types) h2
  | false =>
   rw [hw] at ho
   simp only [Bool.false_eq_true,if_false] at ho
   cases hi : f.is p with
   | true =>
    rw [hi] at ho
    simp only [if_true,Option.some.injEq] at ho
    rw [← ho]
    exact f2_append (hf.pat p (head_is.1 hi) h1) h2
   | false => rw [hi] at ho; simp at ho
def Pt.weight : Pt → Nat
 | .mk d _ _ _ _ l => (if wildD d then 0 else 1) + (l.map fun p => p.weight).sum
theorem Pt.weight_mk (d s : ByteArray) (n : Int) (a : Option Addr) (c : Nat) (l : List Pt) : (Pt.mk d s n a c l).weight = (if wildD d then 0 else 1) + (l.map Pt.weight).sum:=by rw [Pt.weight]
def rowW (r : List Pt) : Nat:=(r.map Pt.weight).sum
def rowsW (rows : List (List Pt)) : Nat:=(rows.map rowW).sum
theorem rowW_append (a b : List Pt) : rowW (a ++ b) = rowW a + rowW b:=by unfold rowW; simp
theorem anyPt_weight : anyPt.weight = 0:=by
 unfold anyPt
 rw [Pt.weight_mk]
 have : wildD ⟨#[97,110,121]⟩ = true:=by unfold wildD; rw [any_list]; rfl
 rw [this]
 rfl
theorem rowW_any (k : Nat) : rowW (List.replicate k anyPt) = 0:=by
 unfold rowW
 rw [List.map_replicate,anyPt_weight]
 simp
theorem weight_parts (p : Pt) : p.weight = (if wildD p.dof then 0 else 1) + rowW p.args:=by
 obtain ⟨d,s,n,a,c,l⟩:=p
 rw [Pt.weight_mk]
 rfl
theorem opened_weight {f : Form} {p : Pt} {r o : List Pt} (ho : opened f (p :: r) = some o) : rowW o ≤ rowW (p :: r) ∧ (wildD p.dof = false → rowW o + 1 = rowW (p :: r)):=by
 have hc : rowW (p :: r) = p.weight + rowW r:=by unfold rowW; simp
 rw [opened_cons] at ho
 cases hw : wildD p.dof with
 | true =>
  rw [hw] at ho
  simp only [if_true,Option.some.injEq] at ho
  rw [← ho,rowW_append,rowW_any,hc]
  exact ⟨by omega,fun h => by cases h⟩
 | false =>
  rw [hw] at ho
  simp only [Bool.false_eq_true,if_false] at ho
  cases hi : f.is p with
  | true =>
   rw [hi] at ho
   simp only [if_true,Option.some.injEq] at ho
   rw [← ho,rowW_append,hc,weight_parts p,hw]
   simp only [Bool.false_eq_true,if_false]
   exact ⟨by omega,fun _ => by omega⟩
  | false => rw [hi] at ho; simp at ho
theorem tame_weight {p : Pt} {r : List Pt} (h : wildD p.dof = false) : 1 ≤ rowW (p :: r):=by
 have hc : rowW (p :: r) = p.weight + rowW r:=by unfold rowW; simp
 rw [hc,weight_parts p,h]
 simp only [Bool.false_eq_true,if_false]
 omega
theorem filter_weight (f : Form) : ∀ rows : List (List Pt),rowsW (rows.filterMap (opened f)) ≤ rowsW rows ∧ ((∃ p r,p :: r ∈ rows ∧ wildD p.dof = false) → rowsW (rows.filterMap (opened f)) + 1 ≤ rowsW rows)
 | [] => ⟨Nat.le_refl _,fun ⟨_,_,h,_⟩ => by cases h⟩
 | r0 :: rows => by
  obtain ⟨ih1,ih2⟩:=filter_weight f rows
  have hc : rowsW (r0 :: rows) = rowW r0 + rowsW rows:=by unfold rowsW; simp
  rw [hc,List.filterMap_cons]
  cases ho : opened f r0 with
  | none =>
   simp only
   refine ⟨by omega,fun ⟨p,r,hm,hw⟩ => ?_⟩
   rcases List.mem_cons.1 hm with rfl | hm
   ·have:=tame_weight (r:=r) hw
    omega
   ·have:=ih2 ⟨p,r,hm,hw⟩
    omega
  | some o =>
   have hc2 : rowsW (o :: rows.filterMap (opened f)) = rowW o + rowsW (rows.filterMap (opened f)):=by unfold rowsW; simp
   simp only
   rw [hc2]
   cases r0 with
   | nil => simp [opened] at ho
   | cons p r =>
    obtain ⟨k1,k2⟩:=opened_weight ho
    refine ⟨by omega,fun ⟨p',r',hm,hw⟩ => ?_⟩
    rcases List.mem_cons.1 hm with he | hm
    ·simp only [List.cons.injEq] at he
     obtain ⟨rfl,rfl⟩:=he
     have:=k2 hw
     omega
    ·have:=ih2 ⟨p',r',hm,hw⟩
     omega
end Go.Proofs.YtjeggkfgdhepaaaGreatDoor

namespace Go.Proofs.YtjeggkfgdhepaaaGreatDoor
open Go.RowKit
open Go.Proofs
def dPair : ByteArray:=⟨#[112,97,105,114]⟩
def dNil : ByteArray:=⟨#[110,105,108]⟩
def dCons : ByteArray:=⟨#[99,111,110,115]⟩
def dBool : ByteArray:=⟨#[98,111,111,108]⟩
def dUnit : ByteArray:=⟨#[117,110,105,116]⟩
def dInt : ByteArray:=⟨#[105,110,116]⟩
def dCon : ByteArray:=⟨#[99,111,110]⟩
def dAny : ByteArray:=⟨#[97,110,121]⟩
theorem l_pair : dPair.toList = [112,97,105,114]:=by decide +kernel
theorem l_nil : dNil.toList = [110,105,108]:=by decide +kernel
theorem l_cons : dCons.toList = [99,111,110,115]:=by decide +kernel
theorem l_bool : dBool.toList = [98,111,111,108]:=by decide +kernel
theorem l_unit : dUnit.toList = [117,110,105,116]:=by decide +kernel
theorem l_int : dInt.toList = [105,110,116]:=by decide +kernel
theorem l_con : dCon.toList = [99,111,110]:=by decide +kernel
theorem l_empty : emptyS.toList = []:=empty_list
theorem bytes_is {d : ByteArray} {x : ByteArray} {p : List UInt8} (h : isDo p d = true) (hx : x.toList = p) : d = x:=by
 unfold isDo at h
 exact bytes_of ((by simpa using h : d.toList = p).trans hx.symm)
theorem isVal_isOf {l : List Dt} {v : Pt} {t : Ty} (h : v.isVal l t = true) : v.isOf l t = true:=by
 obtain ⟨d,s,n,a,c,ps⟩:=v
 rw [Pt.isVal_mk] at h
 split at h
 ·rw [Pt.isOf_mk]
  rw [Bool.and_eq_true] at h
  rw [h.2]
  rfl
 ·rw [Bool.and_eq_true] at h
  exact h.1
theorem isOfL_two (l : List Dt) (a b : Pt) (t u : Ty) : isOfL l [a,b] [t,u] = (a.isOf l t && b.isOf l u):=by simp [isOfL]
theorem isOfL_one (l : List Dt) (a : Pt) (t : Ty) : isOfL l [a] [t] = a.isOf l t:=by simp [isOfL]
theorem isValL_two (l : List Dt) (a b : Pt) (t u : Ty) : isValL l [a,b] [t,u] = (a.isVal l t && b.isVal l u):=by simp [isValL]
theorem isValL_one (l : List Dt) (a : Pt) (t : Ty) : isValL l [a] [t] = a.isVal l t:=by simp [isValL]
theorem vals_two {l : List Dt} {a b : Pt} {t u : Ty} : Vals l [t,u] [a,b] ↔ Val l t a ∧ Val l u b:=by
 constructor
 ·intro h
  cases h with
  | cons h1 h2 =>
   cases h2 with
   | cons h2 h3 => exact ⟨h1,h2⟩
 ·rintro ⟨h1,h2⟩
  exact .cons h1 (.cons h2 .nil)
theorem vals_one {l : List Dt} {a : Pt} {t : Ty} : Vals l [t] [a] ↔ Val l t a:=by
 constructor
 ·intro h
  cases h with
  | cons h1 h2 => exact h1
 ·intro h1
  exact .cons h1 .nil
theorem okT_args {l : List Dt} {t : Ty} (h : okT l t) : ∀ u ∈ t.args,okT l u:=by
 obtain ⟨d,n,a,c,ts⟩:=t
 intro u hu
 simp only [Ty.args] at hu
 have h1:=h.1
 have h2:=h.2
 rw [Ty.well_mk] at h1
 rw [Ty.known_mk] at h2
 simp only [Bool.and_eq_true,List.all_eq_true] at h1 h2
 exact ⟨h1.2 u hu,h2.2.2 u hu⟩
theorem okT_len {l : List Dt} {t : Ty} (h : okT l t) : Ty.arity t.dof = some t.args.length:=(Ty.well_parts h.1).1
theorem one_of {α : Type} {l : List α} (h : l.length = 1) : ∃ a,l = [a]:=by
 match l,h with
 | [a],_ => exact ⟨a,rfl⟩
theorem do_is {p : List UInt8} {d : ByteArray} (h : isDo p d = true) : d.toList = p:=by unfold isDo at h; simpa using h
theorem two_well {d s : ByteArray} {n : Int} {a : Option Addr} {c : Nat} {ps : List Pt} (hd : d.toList = [112,97,105,114] ∨ d.toList = [99,111,110,115]) (h : (Pt.mk d s n a c ps).wellB = true) : ∃ p q,ps = [p,q] ∧ p.wellB = true ∧ q.wellB = true ∧ s = emptyS ∧ n = 0:=by
 rw [Pt.wellB_mk,Bool.and_eq_true,List.all_eq_true] at h
 have h1:=h.1
 unfold nodeOk at h1
 have h2 : (s.toList == []) = true ∧ (n == 0) = true ∧ ps.length = 2:=by
  rcases hd with hd | hd <;> simpa [hd,and_assoc] using h1
 obtain ⟨p,q,rfl⟩:=two_of h2.2.2
 exact ⟨p,q,rfl,h.2 p (by simp),h.2 q (by simp),bytes_of ((by simpa using h2.1 : s.toList = []).trans l_empty.symm),by simpa using h2.2.1⟩
theorem two_wellB {d : ByteArray} {a : Option Addr} {c : Nat} {p q : Pt} (hd : d.toList = [112,97,105,114] ∨ d.toList = [99,111,110,115]) (hp : p.wellB = true) (hq : q.wellB = true) : (Pt.mk d emptyS 0 a c [p,q]).wellB = true:=by
 rw [Pt.wellB_mk,Bool.and_eq_true,List.all_eq_true]
 refine ⟨?_,fun x hx => ?_⟩
 ·unfold nodeOk
  rcases hd with hd | hd <;> simp [hd,l_empty]
 ·simp only [List.mem_cons,List.not_mem_nil,or_false] at hx
  rcases hx with rfl | rfl
  ·exact hp
  ·exact hq
theorem not_opaque {t : Ty} {p : List UInt8} (h : isDo p t.dof = true) (hp : p = [112,97,105,114] ∨ p = [108,105,115,116] ∨ p = [98,111,111,108] ∨ p = [117,110,105,116] ∨ p = [105,110,116] ∨ p = [100,97,116,97]) : opaqueT t = false:=by
 have e:=do_is h
 unfold opaqueT isDo
 rw [e]
 rcases hp with rfl | rfl | rfl | rfl | rfl | rfl <;> decide
theorem pair_args {l : List Dt} {t : Ty} (ht : okT l t) (hd : isDo [112,97,105,114] t.dof = true) : ∃ t0 t1,t.args = [t0,t1]:=by
 have h:=okT_len ht
 have e:=arity_pair hd
 rw [e] at h
 exact two_of (by simpa using h.symm)
theorem list_args {l : List Dt} {t : Ty} (ht : okT l t) (hd : isDo [108,105,115,116] t.dof = true) : ∃ t0,t.args = [t0]:=by
 have h:=okT_len ht
 have e:=arity_list hd
 rw [e] at h
 exact one_of (by simpa using h.symm)
theorem form_pair {l : List Dt} {t : Ty} (ht : okT l t) (hd : isDo [112,97,105,114] t.dof = true) : FormOk l t ⟨dPair,emptyS,0,t.args⟩:=by
 obtain ⟨t0,t1,hargs⟩:=pair_args ht hd
 refine ⟨by unfold wildD; rw [l_pair]; decide, ?_, ?_,okT_args ht⟩
 ·rintro ⟨d,s,n,a,c,ps⟩ ⟨h1,h2,h3⟩
  simp only [Pt.dof,Pt.name,Pt.num] at h1 h2 h3
  subst h1 h2 h3
  have hop:=not_opaque hd (by simp)
  have hiso : ∀ p q,(Pt.mk dPair emptyS 0 a c [p,q]).isOf l t = (p.isOf l t0 && q.isOf l t1):=by
   intro p q
   rw [Pt.isOf_mk,hargs,isOfL_two]
   simp [isDo,l_pair,do_is hd]
  have hisv : ∀ p q,(Pt.mk dPair emptyS 0 a c [p,q]).isVal l t = ((p.isOf l t0 && q.isOf l t1) && (p.isVal l t0 && q.isVal l t1)):=by
   intro p q
   rw [Pt.isVal_mk,hop,hiso]
   have : partsD l t dPair emptyS = [t0,t1]:=by unfold partsD isDo; rw [l_pair]; simp [hargs]
   rw [this,isValL_two]
   simp [wildD,l_pair]
  simp only [Pt.args]
  rw [hargs]
  constructor
  ·rintro ⟨hw,hv⟩
   obtain ⟨p,q,rfl,hp,hq,-,-⟩:=two_well (.inl l_pair) hw
   rw [hisv] at hv
   simp only [Bool.and_eq_true] at hv
   exact vals_two.2 ⟨⟨hp,hv.2.1⟩,⟨hq,hv.2.2⟩⟩
  ·intro hv
   cases hv with
   | cons k1 k2 =>
    cases k2 with
    | cons k2 k3 =>
     cases k3
     rename_i p q
     refine ⟨two_wellB (.inl l_pair) k1.1 k2.1, ?_⟩
     rw [hisv,k1.2,k2.2,isVal_isOf k1.2,isVal_isOf k2.2]
     rfl
 ·rintro ⟨d,s,n,a,c,ps⟩ ⟨h1,h2,h3⟩ ⟨hw,hv⟩
  simp only [Pt.dof,Pt.name,Pt.num] at h1 h2 h3
  subst h1 h2 h3
  obtain ⟨p,q,rfl,hp,hq,-,-⟩:=two_well (.inl l_pair) hw
  rw [Pt.isOf_mk,hargs,isOfL_two] at hv
  simp only [Pt.args]
  rw [hargs]
  have hv2 : p.isOf l t0 = true ∧ q.isOf l t1 = true:=by simpa [isDo,l_pair,do_is hd] using hv
  exact .cons ⟨hp,hv2.1⟩ (.cons ⟨hq,hv2.2⟩ .nil)
theorem form_cons {l : List Dt} {t : Ty} (ht : okT l t) (hd : isDo [108,105,115,116] t.dof = true) : FormOk l t ⟨dCons,emptyS,0,t.args.take 1 ++ [t]⟩:=by
 obtain ⟨t0,hargs⟩:=list_args ht hd
 have ha2 : t.args.take 1 ++ [t] = [t0,t]:=by rw [hargs]; rfl
 refine ⟨by unfold wildD; rw [l_cons]; decide, ?_, ?_, ?_⟩
 ·rintro ⟨d,s,n,a,c,ps⟩ ⟨h1,h2,h3⟩
  simp only [Pt.dof,Pt.name,Pt.num] at h1 h2 h3
  subst h1 h2 h3
  have hop:=not_opaque hd (by simp)
  have hiso : ∀ p q,(Pt.mk dCons emptyS 0 a c [p,q]).isOf l t = (p.isOf l t0 && q.isOf l t):=by
   intro p q
   rw [Pt.isOf_mk,ha2,isOfL_two]
   simp [isDo,l_cons,do_is hd]
  have hisv : ∀ p q,(Pt.mk dCons emptyS 0 a c [p,q]).isVal l t = ((p.isOf l t0 && q.isOf l t) && (p.isVal l t0 && q.isVal l t)):=by
   intro p q
   rw [Pt.isVal_mk,hop,hiso]
   have : partsD l t dCons emptyS = [t0,t]:=by unfold partsD isDo; rw [l_cons]; simp [hargs]
   rw [this,isValL_two]
   simp [wildD,l_cons]
  simp only [Pt.args]
  rw [ha2]
  constructor
  ·rintro ⟨hw,hv⟩
   obtain ⟨p,q,rfl,hp,hq,-,-⟩:=two_well (.inr l_cons) hw
   rw [hisv] at hv
   simp only [Bool.and_eq_true] at hv
   exact vals_two.2 ⟨⟨hp,hv.2.1⟩,⟨hq,hv.2.2⟩⟩
  ·intro hv
   cases hv with
   | cons k1 k2 =>
    cases k2 with
    | cons k2 k3 =>
     cases k3
     rename_i p q
     refine ⟨two_wellB (.inr l_cons) k1.1 k2.1, ?_⟩
     rw [hisv,k1.2,k2.2,isVal_isOf k1.2,isVal_isOf k2.2]
     rfl
 ·rintro ⟨d,s,n,a,c,ps⟩ ⟨h1,h2,h3⟩ ⟨hw,hv⟩
  simp only [Pt.dof,Pt.name,Pt.num] at h1 h2 h3
  subst h1 h2 h3
  obtain ⟨p,q,rfl,hp,hq,-,-⟩:=two_well (.inr l_cons) hw
  rw [Pt.isOf_mk,ha2,isOfL_two] at hv
  simp only [Pt.args]
  rw [ha2]
  have hv2 : p.isOf l t0 = true ∧ q.isOf l t = true:=by simpa [isDo,l_cons,do_is hd] using hv
  exact .cons ⟨hp,hv2.1⟩ (.cons ⟨hq,hv2.2⟩ .nil)
 ·intro u hu
  simp only [ha2,List.mem_cons,List.not_mem_nil,or_false] at hu
  rcases hu with rfl | rfl
  ·exact okT_args ht _ (by rw [hargs]; simp)
  ·exact ht
theorem form_flat {l : List Dt} {t : Ty} (d s : ByteArray) (n : Int) (hw : wildD d = false) (hop : opaqueT t = false) (hlen : ∀ len,nodeOk d s n len = true → len = 0) (hok : nodeOk d s n 0 = true) (hof : ∀ a c,(Pt.mk d s n a c []).isOf l t = true) : FormOk l t ⟨d,s,n,[]⟩:=by
 refine ⟨hw, ?_, ?_,fun u hu => by cases hu⟩
 ·rintro ⟨d',s',n',a,c,ps⟩ ⟨h1,h2,h3⟩
  simp only [Pt.dof,Pt.name,Pt.num] at h1 h2 h3
  subst h1 h2 h3
  simp only [Pt.args]
  constructor
  ·rintro ⟨h1,-⟩
   rw [Pt.wellB_mk,Bool.and_eq_true] at h1
   have:=hlen _ h1.1
   have : ps = []:=List.eq_nil_of_length_eq_zero this
   subst this
   exact .nil
  ·intro h
   cases h
   refine ⟨by rw [Pt.wellB_mk]; simp [hok], ?_⟩
   rw [Pt.isVal_mk,hop,hw,hof a c]
   simp [isValL]
 ·rintro ⟨d',s',n',a,c,ps⟩ ⟨h1,h2,h3⟩ ⟨hwp,-⟩
  simp only [Pt.dof,Pt.name,Pt.num] at h1 h2 h3
  subst h1 h2 h3
  rw [Pt.wellB_mk,Bool.and_eq_true] at hwp
  have:=hlen _ hwp.1
  have : ps = []:=List.eq_nil_of_length_eq_zero this
  subst this
  exact .nil
theorem form_nil {l : List Dt} {t : Ty} (hd : isDo [108,105,115,116] t.dof = true) : FormOk l t ⟨dNil,emptyS,0,[]⟩:=
 form_flat _ _ _ (by unfold wildD; rw [l_nil]; decide) (not_opaque hd (by simp)) (fun len h => by unfold nodeOk at h; simpa [l_nil,l_empty] using h) (by unfold nodeOk; simp [l_nil,l_empty]) (fun a c => by rw [Pt.isOf_mk]; simp [isDo,l_nil,do_is hd])
theorem form_unit {l : List Dt} {t : Ty} (hd : isDo [117,110,105,116] t.dof = true) : FormOk l t ⟨dUnit,emptyS,0,[]⟩:=
 form_flat _ _ _ (by unfold wildD; rw [l_unit]; decide) (not_opaque hd (by simp)) (fun len h => by unfold nodeOk at h; simpa [l_unit,l_empty] using h) (by unfold nodeOk; simp [l_unit,l_empty]) (fun a c => by rw [Pt.isOf_mk]; simp [isDo,l_unit,do_is hd])
theorem form_bool {l : List Dt} {t : Ty} (hd : isDo [98,111,111,108] t.dof = true) (n : Int) (hn : n = 0 ∨ n = 1) : FormOk l t ⟨dBool,emptyS,n,[]⟩:=
 form_flat _ _ _ (by unfold wildD; rw [l_bool]; decide) (not_opaque hd (by simp)) (fun len h => by unfold nodeOk at h; rcases hn with rfl | rfl <;> simpa [l_bool,l_empty] using h) (by unfold nodeOk; rcases hn with rfl | rfl <;> simp [l_bool,l_empty]) (fun a c => by rw [Pt.isOf_mk]; simp [isDo,l_bool,do_is hd])
theorem form_int {l : List Dt} {t : Ty} (hd : isDo [105,110,116] t.dof = true) (n : Int) : FormOk l t ⟨dInt,emptyS,n,[]⟩:=
 form_flat _ _ _ (by unfold wildD; rw [l_int]; decide) (not_opaque hd (by simp)) (fun len h => by unfold nodeOk at h; simpa [l_int,l_empty] using h) (by unfold nodeOk; simp [l_int,l_empty]) (fun a c => by rw [Pt.isOf_mk]; simp [isDo,l_int,do_is hd])
end Go.Proofs.YtjeggkfgdhepaaaGreatDoor

namespace Go.Proofs.YtjeggkfgdhepaaaGreatDoor
open Go.RowKit
open Go.Proofs
def conForm (c : Cn) : Form:=⟨dCon,c.name,0,if c.has then [c.ty] else []⟩
theorem consOf_mem {l : List Dt} {n : ByteArray} {c : Cn} (h : c ∈ consOf l n) : ∃ d ∈ l,d.name = n ∧ c ∈ d.cons ∧ consOf l n = d.cons:=by
 unfold consOf at h ⊢
 cases hf : l.find? fun d => d.name.toList == n.toList with
 | none => rw [hf] at h; cases h
 | some d =>
  rw [hf] at h
  exact ⟨d,List.mem_of_find?_eq_some hf,bytes_of (by simpa using List.find?_some hf),h,rfl⟩
theorem consOf_distinct {l : List Dt} (hr : Right l) (n : ByteArray) : distinctB ((consOf l n).map Cn.name) = true:=by
 unfold consOf
 cases hf : l.find? fun d => d.name.toList == n.toList with
 | none => rfl
 | some d => exact allCons_sub (List.mem_of_find?_eq_some hf) hr.cnames
theorem pick_con {l : List Dt} (hr : Right l) {t : Ty} (hd : isDo [100,97,116,97] t.dof = true) {c : Cn} (hc : c ∈ consOf l t.name) (len : Nat) : pickC l t c.name len = if (c.has == ((len : Int) == 1)) then some c else none:=by
 unfold pickC
 rw [find_con (consOf_distinct hr t.name) hc _ (fun x hx hp => by
  simp only [Bool.and_eq_true] at hp
  exact bytes_of (by simpa using hp.2.1))]
 simp [hd]
theorem parts_con {l : List Dt} (hr : Right l) {t : Ty} {c : Cn} (hc : c ∈ consOf l t.name) : partsD l t dCon c.name = if c.has then [c.ty] else []:=by
 unfold partsD isDo
 rw [l_con,find_con (consOf_distinct hr t.name) hc _ (fun x hx hp => by
  simp only [Bool.and_eq_true] at hp
  exact bytes_of (by simpa using hp.1))]
 cases c.has <;> simp
theorem form_con {l : List Dt} (hr : Right l) {t : Ty} (hd : isDo [100,97,116,97] t.dof = true) {c : Cn} (hc : c ∈ consOf l t.name) : FormOk l t (conForm c):=by
 obtain ⟨d0,hd0,-,hcd,-⟩:=consOf_mem hc
 obtain ⟨hk,hty⟩:=(hr.cons d0 hd0).2 c hcd
 have hop:=not_opaque hd (by simp)
 have hnode : ∀ len,nodeOk dCon c.name 0 len = decide (len ≤ 1):=by
  intro len
  unfold nodeOk
  simp [l_con,hk]
 have hiso : ∀ a cp ps,(Pt.mk dCon c.name 0 a cp ps).isOf l t = ((c.has == ((ps.length : Int) == 1)) && (!c.has || isOfL l ps [c.ty])):=by
  intro a cp ps
  rw [Pt.isOf_mk,pick_con hr hd hc]
  simp only [isDo,l_con]
  cases c.has == ((ps.length : Int) == 1) <;> simp
 have hisv : ∀ a cp ps,(Pt.mk dCon c.name 0 a cp ps).isVal l t = (((c.has == ((ps.length : Int) == 1)) && (!c.has || isOfL l ps [c.ty])) && isValL l ps (if c.has then [c.ty] else [])):=by
  intro a cp ps
  rw [Pt.isVal_mk,hop,hiso,parts_con hr hc]
  simp [wildD,l_con]
 unfold conForm
 refine ⟨by show wildD dCon = false; unfold wildD; rw [l_con]; decide, ?_, ?_, ?_⟩
 ·rintro ⟨d',s',n',a,cp,ps⟩ ⟨h1,h2,h3⟩
  simp only [Pt.dof,Pt.name,Pt.num] at h1 h2 h3
  subst h1 h2 h3
  simp only [Pt.args]
  cases hh : c.has with
  | false =>
   simp only [Bool.false_eq_true,if_false]
   constructor
   ·rintro ⟨h1,h2⟩
    rw [Pt.wellB_mk,Bool.and_eq_true,hnode,decide_eq_true_eq] at h1
    rw [hisv,hh] at h2
    have hl : ps.length ≠ 1:=by
     intro e
     rw [e] at h2
     simp at h2
    have : ps = []:=List.eq_nil_of_length_eq_zero (by omega)
    subst this
    exact .nil
   ·intro h
    cases h
    refine ⟨by rw [Pt.wellB_mk,hnode]; simp, ?_⟩
    rw [hisv,hh]
    simp [isValL]
  | true =>
   simp only [if_true]
   constructor
   ·rintro ⟨h1,h2⟩
    rw [Pt.wellB_mk,Bool.and_eq_true,List.all_eq_true] at h1
    rw [hisv,hh] at h2
    simp only [Bool.and_eq_true] at h2
    have hl : ps.length = 1:=by
     have:=h2.1.1
     simp at this
     omega
    obtain ⟨p,rfl⟩:=one_of hl
    have hv:=h2.2
    simp only [if_true] at hv
    rw [isValL_one] at hv
    exact vals_one.2 ⟨h1.2 p (by simp),hv⟩
   ·intro h
    cases h with
    | cons k1 k2 =>
     cases k2
     rename_i p
     refine ⟨by rw [Pt.wellB_mk,hnode]; simp [k1.1], ?_⟩
     rw [hisv,hh]
     simp only [if_true]
     rw [isValL_one,isOfL_one,isVal_isOf k1.2,k1.2]
     rfl
 ·rintro ⟨d',s',n',a,cp,ps⟩ ⟨h1,h2,h3⟩ ⟨hw,hv⟩
  simp only [Pt.dof,Pt.name,Pt.num] at h1 h2 h3
  subst h1 h2 h3
  simp only [Pt.args]
  rw [Pt.wellB_mk,Bool.and_eq_true,hnode,decide_eq_true_eq,List.all_eq_true] at hw
  rw [hiso] at hv
  cases hh : c.has with
  | false =>
   rw [hh] at hv
   have hl : ps.length ≠ 1:=by
    intro e
    rw [e] at hv
    simp at hv
   have : ps = []:=List.eq_nil_of_length_eq_zero (by omega)
   subst this
   exact .nil
  | true =>
   rw [hh] at hv
   simp only [Bool.and_eq_true] at hv
   have hl : ps.length = 1:=by
    have:=hv.1
    simp at this
    omega
   obtain ⟨p,rfl⟩:=one_of hl
   have hv2:=hv.2
   simp only [Bool.not_true,Bool.false_or] at hv2
   rw [isOfL_one] at hv2
   exact .cons ⟨hw.2 p (by simp),hv2⟩ .nil
 ·intro u hu
  cases hh : c.has with
  | false => rw [hh] at hu; cases hu
  | true =>
   rw [hh] at hu
   simp only [if_true,List.mem_cons,List.not_mem_nil,or_false] at hu
   subst hu
   exact hty hh
theorem isOf_head {l : List Dt} {t : Ty} {p : Pt} (hw : p.wellB = true) (htame : wildD p.dof = false) (h : p.isOf l t = true) :
  (p.dof = dInt ∧ p.name = emptyS ∧ isDo [105,110,116] t.dof = true) ∨ (p.dof = dBool ∧ p.name = emptyS ∧ (p.num = 0 ∨ p.num = 1) ∧ isDo [98,111,111,108] t.dof = true) ∨ (p.dof = dUnit ∧ p.name = emptyS ∧ p.num = 0 ∧ isDo [117,110,105,116] t.dof = true) ∨
  (p.dof = dNil ∧ p.name = emptyS ∧ p.num = 0 ∧ isDo [108,105,115,116] t.dof = true) ∨ (p.dof = dPair ∧ p.name = emptyS ∧ p.num = 0 ∧ isDo [112,97,105,114] t.dof = true) ∨ (p.dof = dCons ∧ p.name = emptyS ∧ p.num = 0 ∧ isDo [108,105,115,116] t.dof = true) ∨
  (p.dof = dCon ∧ p.num = 0 ∧ isDo [100,97,116,97] t.dof = true ∧ ∃ c ∈ consOf l t.name,c.name = p.name):=by
 obtain ⟨d,s,n,a,cp,ps⟩:=p
 simp only [Pt.dof,Pt.name,Pt.num] at *
 rw [Pt.wellB_mk,Bool.and_eq_true] at hw
 have hn:=hw.1
 unfold nodeOk at hn
 unfold wildD at htame
 rw [Bool.or_eq_false_iff] at htame
 rw [Pt.isOf_mk] at h
 have g1 : (d.toList == [97,110,121]) = false:=htame.1
 have g2 : (d.toList == [118,97,114]) = false:=htame.2
 have he : ∀ x : ByteArray,(x.toList == []) = true → x = emptyS:=fun x hx => bytes_of ((by simpa using hx : x.toList = []).trans l_empty.symm)
 by_cases h3 : (d.toList == [105,110,116]) = true
 ·have hd : d.toList = [105,110,116]:=by simpa using h3
  have hd2 : d = dInt:=bytes_of (hd.trans l_int.symm)
  refine .inl ⟨hd2,he s ?_, ?_⟩
  ·simp only [hd] at hn
   simp at hn
   simp [hn.1]
  ·simp [isDo,hd] at h
   simp [isDo,h]
 by_cases h4 : (d.toList == [98,111,111,108]) = true
 ·have hd : d.toList = [98,111,111,108]:=by simpa using h4
  have hd2 : d = dBool:=bytes_of (hd.trans l_bool.symm)
  simp only [hd] at hn
  simp at hn
  refine .inr (.inl ⟨hd2,he s (by simp [hn.1]),hn.1.2, ?_⟩)
  simp [isDo,hd] at h
  simp [isDo,h]
 by_cases h5 : (d.toList == [117,110,105,116]) = true
 ·have hd : d.toList = [117,110,105,116]:=by simpa using h5
  have hd2 : d = dUnit:=bytes_of (hd.trans l_unit.symm)
  simp only [hd] at hn
  simp at hn
  refine .inr (.inr (.inl ⟨hd2,he s (by simp [hn.1]),hn.1.2, ?_⟩))
  simp [isDo,hd] at h
  simp [isDo,h]
 by_cases h6 : (d.toList == [110,105,108]) = true
 ·have hd : d.toList = [110,105,108]:=by simpa using h6
  have hd2 : d = dNil:=bytes_of (hd.trans l_nil.symm)
  simp only [hd] at hn
  simp at hn
  refine .inr (.inr (.inr (.inl ⟨hd2,he s (by simp [hn.1]),hn.1.2, ?_⟩)))
  simp [isDo,hd] at h
  simp [isDo,h]
 by_cases h7 : (d.toList == [112,97,105,114]) = true
 ·have hd : d.toList = [112,97,105,114]:=by simpa using h7
  have hd2 : d = dPair:=bytes_of (hd.trans l_pair.symm)
  simp only [hd] at hn
  simp at hn
  refine .inr (.inr (.inr (.inr (.inl ⟨hd2,he s (by simp [hn.1]),hn.1.2, ?_⟩))))
  simp [isDo,hd] at h
  simp [isDo,h.1]
 by_cases h8 : (d.toList == [99,111,110,115]) = true
 ·have hd : d.toList = [99,111,110,115]:=by simpa using h8
  have hd2 : d = dCons:=bytes_of (hd.trans l_cons.symm)
  simp only [hd] at hn
  simp at hn
  refine .inr (.inr (.inr (.inr (.inr (.inl ⟨hd2,he s (by simp [hn.1]),hn.1.2, ?_⟩)))))
  simp [isDo,hd] at h
  simp [isDo,h.1]
 simp only [Bool.not_eq_true] at h3 h4 h5 h6 h7 h8
 simp only [g1,g2,h3,h4,h5,h6,h7,h8,Bool.or_false,Bool.false_or,Bool.false_eq_true,if_false] at hn
 simp only [isDo,g1,g2,h3,h4,h5,h6,h7,h8,Bool.or_false,Bool.false_or,Bool.false_eq_true,if_false] at h
 by_cases h9 : (d.toList == [99,111,110]) = true
 ·have hd : d.toList = [99,111,110]:=by simpa using h9
  have hd2 : d = dCon:=bytes_of (hd.trans l_con.symm)
  simp only [hd] at hn
  simp at hn
  refine .inr (.inr (.inr (.inr (.inr (.inr ⟨hd2,hn.1.2, ?_⟩)))))
  cases hp : pickC l t s ps.length with
  | none => rw [hp] at h; cases h
  | some c =>
   unfold pickC at hp
   have hm:=List.mem_of_find?_eq_some hp
   have hc:=List.find?_some hp
   simp only [Bool.and_eq_true] at hc
   exact ⟨hc.1,c,hm,bytes_of (by simpa using hc.2.1)⟩
 ·simp only [Bool.not_eq_true] at h9
  rw [h9] at hn
  simp at hn
theorem val_tame {l : List Dt} {t : Ty} {v : Pt} (hop : opaqueT t = false) (h : Val l t v) : wildD v.dof = false:=by
 obtain ⟨d,s,n,a,cp,ps⟩:=v
 have h2:=h.2
 rw [Pt.isVal_mk,hop] at h2
 simp only [Pt.dof]
 cases hw : wildD d with
 | false => rfl
 | true => rw [hw] at h2; simp at h2
theorem do_clash {p q : List UInt8} {d : ByteArray} (h1 : isDo p d = true) (h2 : isDo q d = true) : p = q:=(do_is h1).symm.trans (do_is h2)
theorem tame_num (p v : Pt) (hw : wildD p.dof = false) (e : (p.num == v.num) = false) : p.matchB v = false:=by rw [tame_match p v hw,e]; simp
theorem tame_dof (p v : Pt) (hw : wildD p.dof = false) (e : (p.dof.toList == v.dof.toList) = false) : p.matchB v = false:=by rw [tame_match p v hw,e]; simp
def IsForms (l : List Dt) (t : Ty) (col : List Pt) (fs : List Form) : Prop:=
 (isDo [112,97,105,114] t.dof = true ∧ fs = [⟨dPair,emptyS,0,t.args⟩]) ∨
 (isDo [108,105,115,116] t.dof = true ∧ fs = [⟨dNil,emptyS,0,[]⟩,⟨dCons,emptyS,0,t.args.take 1 ++ [t]⟩]) ∨
 (isDo [98,111,111,108] t.dof = true ∧ fs = [⟨dBool,emptyS,0,[]⟩,⟨dBool,emptyS,1,[]⟩]) ∨
 (isDo [117,110,105,116] t.dof = true ∧ fs = [⟨dUnit,emptyS,0,[]⟩]) ∨
 (isDo [105,110,116] t.dof = true ∧ ∃ (ns : List Int) (m : Int),fs = ns.map (fun n => (⟨dInt,emptyS,n,[]⟩ : Form)) ++ [⟨dInt,emptyS,m,[]⟩] ∧ (∀ p ∈ col,isDo [105,110,116] p.dof = true → p.num ∈ ns ∧ p.num ≠ m)) ∨
 (isDo [100,97,116,97] t.dof = true ∧ fs = (consOf l t.name).map conForm)
theorem forms_ok {l : List Dt} (hr : Right l) {t : Ty} (ht : okT l t) {col : List Pt} {fs : List Form} (h : IsForms l t col fs) : FormsOk l t col fs:=by
 rcases h with ⟨hd,rfl⟩ | ⟨hd,rfl⟩ | ⟨hd,rfl⟩ | ⟨hd,rfl⟩ | ⟨hd,ns,m,rfl,hns⟩ | ⟨hd,rfl⟩
 ·refine ⟨fun f hf => by simp only [List.mem_singleton] at hf; subst hf; exact form_pair ht hd,fun v hv => ?_⟩
  have hop:=not_opaque hd (by simp)
  rcases isOf_head hv.1 (val_tame hop hv) (isVal_isOf hv.2) with h | h | h | h | h | h | h
  ·exact absurd (do_clash hd h.2.2) (by decide)
  ·exact absurd (do_clash hd h.2.2.2) (by decide)
  ·exact absurd (do_clash hd h.2.2.2) (by decide)
  ·exact absurd (do_clash hd h.2.2.2) (by decide)
  ·exact ⟨_,List.mem_cons_self ..,v,⟨h.1,h.2.1,h.2.2.1⟩,hv,fun _ _ => rfl⟩
  ·exact absurd (do_clash hd h.2.2.2) (by decide)
  ·exact absurd (do_clash hd h.2.2.1) (by decide)
 ·refine ⟨fun f hf => ?_,fun v hv => ?_⟩
  ·simp only [List.mem_cons,List.not_mem_nil,or_false] at hf
   rcases hf with rfl | rfl
   ·exact form_nil hd
   ·exact form_cons ht hd
  have hop:=not_opaque hd (by simp)
  rcases isOf_head hv.1 (val_tame hop hv) (isVal_isOf hv.2) with h | h | h | h | h | h | h
  ·exact absurd (do_clash hd h.2.2) (by decide)
  ·exact absurd (do_clash hd h.2.2.2) (by decide)
  ·exact absurd (do_clash hd h.2.2.2) (by decide)
  ·exact ⟨_,List.mem_cons_self ..,v,⟨h.1,h.2.1,h.2.2.1⟩,hv,fun _ _ => rfl⟩
  ·exact absurd (do_clash hd h.2.2.2) (by decide)
  ·exact ⟨_,List.mem_cons_of_mem _ (List.mem_cons_self ..),v,⟨h.1,h.2.1,h.2.2.1⟩,hv,fun _ _ => rfl⟩
  ·exact absurd (do_clash hd h.2.2.1) (by decide)
 ·refine ⟨fun f hf => ?_,fun v hv => ?_⟩
  ·simp only [List.mem_cons,List.not_mem_nil,or_false] at hf
   rcases hf with rfl | rfl
   ·exact form_bool hd 0 (by simp)
   ·exact form_bool hd 1 (by simp)
  have hop:=not_opaque hd (by simp)
  rcases isOf_head hv.1 (val_tame hop hv) (isVal_isOf hv.2) with h | h | h | h | h | h | h
  ·exact absurd (do_clash hd h.2.2) (by decide)
  ·rcases h.2.2.1 with hn | hn
   ·exact ⟨_,List.mem_cons_self ..,v,⟨h.1,h.2.1,hn⟩,hv,fun _ _ => rfl⟩
   ·exact ⟨_,List.mem_cons_of_mem _ (List.mem_cons_self ..),v,⟨h.1,h.2.1,hn⟩,hv,fun _ _ => rfl⟩
  ·exact absurd (do_clash hd h.2.2.2) (by decide)
  ·exact absurd (do_clash hd h.2.2.2) (by decide)
  ·exact absurd (do_clash hd h.2.2.2) (by decide)
  ·exact absurd (do_clash hd h.2.2.2) (by decide)
  ·exact absurd (do_clash hd h.2.2.1) (by decide)
 ·refine ⟨fun f hf => by simp only [List.mem_singleton] at hf; subst hf; exact form_unit hd,fun v hv => ?_⟩
  have hop:=not_opaque hd (by simp)
  rcases isOf_head hv.1 (val_tame hop hv) (isVal_isOf hv.2) with h | h | h | h | h | h | h
  ·exact absurd (do_clash hd h.2.2) (by decide)
  ·exact absurd (do_clash hd h.2.2.2) (by decide)
  ·exact ⟨_,List.mem_cons_self ..,v,⟨h.1,h.2.1,h.2.2.1⟩,hv,fun _ _ => rfl⟩
  ·exact absurd (do_clash hd h.2.2.2) (by decide)
  ·exact absurd (do_clash hd h.2.2.2) (by decide)
  ·exact absurd (do_clash hd h.2.2.2) (by decide)
  ·exact absurd (do_clash hd h.2.2.1) (by decide)
 ·refine ⟨fun f hf => ?_,fun v hv => ?_⟩
  ·simp only [List.mem_append,List.mem_map,List.mem_singleton] at hf
   rcases hf with ⟨n,-,rfl⟩ | rfl
   ·exact form_int hd n
   ·exact form_int hd m
  have hop:=not_opaque hd (by simp)
  rcases isOf_head hv.1 (val_tame hop hv) (isVal_isOf hv.2) with h | h | h | h | h | h | h
  ·by_cases hin : v.num ∈ ns
   ·exact ⟨⟨dInt,emptyS,v.num,[]⟩,List.mem_append_left _ (List.mem_map.2 ⟨v.num,hin,rfl⟩),v,⟨h.1,h.2.1,rfl⟩,hv,fun _ _ => rfl⟩
   ·have hfm:=form_int (l:=l) hd m
    have hh : Head (.mk dInt emptyS m none 0 []) ⟨dInt,emptyS,m,[]⟩:=⟨rfl,rfl,rfl⟩
    refine ⟨⟨dInt,emptyS,m,[]⟩,List.mem_append_right _ (by simp),.mk dInt emptyS m none 0 [],hh,(hfm.val _ hh).2 .nil,fun p hp => ?_⟩
    cases hw : wildD p.dof with
    | true => rw [wild_of p hw,wild_of p hw]
    | false =>
     cases hi : isDo [105,110,116] p.dof with
     | true =>
      obtain ⟨h1,h2⟩:=hns p hp hi
      have e1 : (p.num == m) = false:=by rw [beq_eq_false_iff_ne]; exact h2
      have e2 : (p.num == v.num) = false:=by rw [beq_eq_false_iff_ne]; intro e; exact hin (e ▸ h1)
      rw [tame_num p (.mk dInt emptyS m none 0 []) hw e1,tame_num p v hw e2]
     | false =>
      have e1 : (p.dof.toList == dInt.toList) = false:=by rw [l_int]; exact hi
      have e2 : (p.dof.toList == v.dof.toList) = false:=by rw [h.1]; exact e1
      rw [tame_dof p (.mk dInt emptyS m none 0 []) hw e1,tame_dof p v hw e2]
  ·exact absurd (do_clash hd h.2.2.2) (by decide)
  ·exact absurd (do_clash hd h.2.2.2) (by decide)
  ·exact absurd (do_clash hd h.2.2.2) (by decide)
  ·exact absurd (do_clash hd h.2.2.2) (by decide)
  ·exact absurd (do_clash hd h.2.2.2) (by decide)
  ·exact absurd (do_clash hd h.2.2.1) (by decide)
 ·refine ⟨fun f hf => ?_,fun v hv => ?_⟩
  ·obtain ⟨c,hc,rfl⟩:=List.mem_map.1 hf
   exact form_con hr hd hc
  have hop:=not_opaque hd (by simp)
  rcases isOf_head hv.1 (val_tame hop hv) (isVal_isOf hv.2) with h | h | h | h | h | h | h
  ·exact absurd (do_clash hd h.2.2) (by decide)
  ·exact absurd (do_clash hd h.2.2.2) (by decide)
  ·exact absurd (do_clash hd h.2.2.2) (by decide)
  ·exact absurd (do_clash hd h.2.2.2) (by decide)
  ·exact absurd (do_clash hd h.2.2.2) (by decide)
  ·exact absurd (do_clash hd h.2.2.2) (by decide)
  ·obtain ⟨c,hc,hcn⟩:=h.2.2.2
   exact ⟨conForm c,List.mem_map.2 ⟨c,hc,rfl⟩,v,⟨h.1,hcn.symm,h.2.1⟩,hv,fun _ _ => rfl⟩
end Go.Proofs.YtjeggkfgdhepaaaGreatDoor

namespace Go.Proofs.YtjeggkfgdhepaaaGreatDoor
open Go.RowKit
open Go.Proofs
def hasV (S : ByteArray → Bool) : Ty → Bool
 | .mk d n _ _ l => if isDo [112,97,105,114] d then (l.map fun t => hasV S t).all id else if isDo [100,97,116,97] d then S n else true
theorem hasV_mk (S : ByteArray → Bool) (d n : ByteArray) (a : Option Addr) (c : Nat) (l : List Ty) : hasV S (.mk d n a c l) = if isDo [112,97,105,114] d then l.all (hasV S) else if isDo [100,97,116,97] d then S n else true:=by
 rw [hasV]
 simp [List.all_map,Function.comp_def]
def conHas (S : ByteArray → Bool) (c : Cn) : Bool:=!c.has || hasV S c.ty
structure Inh (l : List Dt) (S : ByteArray → Bool) : Prop where
 /-- what is in S has a value -/
 real : ∀ d ∈ l,S d.name = true → ∃ c ∈ d.cons,c.has = false ∨ ∃ v,Val l c.ty v
 /-- S is closed -/
 closed : ∀ d ∈ l,∀ c ∈ d.cons,conHas S c = true → S d.name = true
theorem known_data {l : List Dt} {t : Ty} (ht : okT l t) (hd : isDo [100,97,116,97] t.dof = true) : ∃ d ∈ l,d.name = t.name ∧ consOf l t.name = d.cons:=by
 obtain ⟨d,n,a,c,ts⟩:=t
 have h2:=ht.2
 rw [Ty.known_mk] at h2
 simp only [Ty.dof,Ty.name] at *
 have h3 : hasDt l n = true:=by
  simp only [Bool.and_eq_true,Bool.not_eq_true'] at h2
  have:=h2.2.1
  rw [hd] at this
  simpa using this
 unfold hasDt at h3
 rw [List.any_eq_true] at h3
 obtain ⟨x,hx,he⟩:=h3
 unfold consOf
 cases hf : l.find? fun d => d.name.toList == n.toList with
 | none => exact absurd he (List.find?_eq_none.1 hf x hx)
 | some d' => exact ⟨d',List.mem_of_find?_eq_some hf,bytes_of (by simpa using List.find?_some hf),rfl⟩
theorem form_val {l : List Dt} {t : Ty} {f : Form} (hf : FormOk l t f) {vs : List Pt} (h : Vals l f.types vs) : ∃ v,Val l t v:=by
 have hh : Head (.mk f.dof f.name f.num none 0 vs) f:=⟨rfl,rfl,rfl⟩
 exact ⟨_,(hf.val _ hh).2 h⟩
theorem ty_kinds {l : List Dt} {t : Ty} (ht : okT l t) : opaqueT t = true ∨ isDo [112,97,105,114] t.dof = true ∨ isDo [108,105,115,116] t.dof = true ∨ isDo [98,111,111,108] t.dof = true ∨ isDo [117,110,105,116] t.dof = true ∨ isDo [105,110,116] t.dof = true ∨ isDo [100,97,116,97] t.dof = true:=by
 have h:=okT_len ht
 have h2:=ht.2
 obtain ⟨d,n,a,c,ts⟩:=t
 rw [Ty.known_mk] at h2
 simp only [Bool.and_eq_true,Bool.not_eq_true'] at h2
 simp only [Ty.dof,Ty.args] at *
 unfold Ty.arity at h
 unfold opaqueT
 simp only [Ty.dof]
 rw [h2.1] at h
 cases h1 : isDo [105,110,116] d <;> cases h3 : isDo [98,111,111,108] d <;> cases h4 : isDo [117,110,105,116] d <;> cases h5 : isDo [116,101,120,116] d <;> cases h6 : isDo [100,97,116,97] d <;> cases h7 : isDo [108,105,115,116] d <;> cases h8 : isDo [97,114,114,97,121] d <;> cases h9 : isDo [112,97,105,114] d <;> cases h10 : isDo [102,110] d <;> simp_all
theorem any_val {l : List Dt} {t : Ty} (h : opaqueT t = true) : Val l t anyPt:=by
 refine ⟨(anyPt_ok l t).1, ?_⟩
 unfold anyPt
 rw [Pt.isVal_mk,h]
 simp [isDo,any_list]
theorem hasV_real {l : List Dt} (hr : Right l) {S : ByteArray → Bool} (hS : ∀ d ∈ l,S d.name = true → ∃ c ∈ d.cons,c.has = false ∨ ∃ v,Val l c.ty v) (t : Ty) : okT l t → hasV S t = true → ∃ v,Val l t v:=by
 refine Ty.induct (p:=fun t => okT l t → hasV S t = true → ∃ v,Val l t v) (fun d n a c ts ih ht h => ?_) t
 rcases ty_kinds ht with hk | hk | hk | hk | hk | hk | hk
 ·exact ⟨_,any_val hk⟩
 ·obtain ⟨t0,t1,hargs⟩:=pair_args ht hk
  simp only [Ty.args] at hargs
  subst hargs
  rw [hasV_mk] at h
  simp only [Ty.dof] at hk
  rw [hk] at h
  simp only [if_true,List.all_cons,List.all_nil,Bool.and_true,Bool.and_eq_true] at h
  have hok:=okT_args ht
  simp only [Ty.args] at hok
  obtain ⟨v0,h0⟩:=ih t0 (by simp) (hok t0 (by simp)) h.1
  obtain ⟨v1,h1⟩:=ih t1 (by simp) (hok t1 (by simp)) h.2
  exact form_val (form_pair ht hk) (vals_two.2 ⟨h0,h1⟩)
 ·exact form_val (form_nil hk) .nil
 ·exact form_val (form_bool hk 0 (by simp)) .nil
 ·exact form_val (form_unit hk) .nil
 ·exact form_val (form_int hk 0) .nil
 ·obtain ⟨dt,hdt,hn,hcs⟩:=known_data ht hk
  have hnp : isDo [112,97,105,114] d = false:=by
   cases hx : isDo [112,97,105,114] d with
   | false => rfl
   | true => exact absurd (do_clash hx hk) (by decide)
  simp only [Ty.dof,Ty.name] at hk hn hcs
  rw [hasV_mk,hnp,hk] at h
  simp only [Bool.false_eq_true,if_false,if_true] at h
  obtain ⟨cn,hcn,hv⟩:=hS dt hdt (by rw [hn]; exact h)
  have hf:=form_con hr (t:=.mk d n a c ts) hk (c:=cn) (by simp only [Ty.name]; rw [hcs]; exact hcn)
  rcases hv with hv | ⟨v,hv⟩
  ·exact form_val hf (vs:=[]) (by unfold conForm; rw [hv]; exact .nil)
  ·cases hh : cn.has with
   | false => exact form_val hf (vs:=[]) (by unfold conForm; rw [hh]; exact .nil)
   | true => exact form_val hf (vs:=[v]) (by unfold conForm; rw [hh]; exact .cons hv .nil)
theorem hasV_all {l : List Dt} (hr : Right l) {S : ByteArray → Bool} (hc : ∀ d ∈ l,∀ c ∈ d.cons,conHas S c = true → S d.name = true) (v : Pt) : ∀ t,okT l t → Val l t v → hasV S t = true:=by
 refine Pt.induct (p:=fun v => ∀ t,okT l t → Val l t v → hasV S t = true) (fun d s n a c ps ih t ht hv => ?_) v
 obtain ⟨td,tn,ta,tc,ts⟩:=t
 rw [hasV_mk]
 cases hp : isDo [112,97,105,114] td with
 | true =>
  simp only [if_true]
  have hop:=not_opaque (t:=.mk td tn ta tc ts) hp (by simp)
  have hfs:=forms_ok hr ht (col:=[]) (fs:=[⟨dPair,emptyS,0,ts⟩]) (.inl ⟨hp,rfl⟩)
  have hh : Head (Pt.mk d s n a c ps) ⟨dPair,emptyS,0,ts⟩:=by
   rcases isOf_head hv.1 (val_tame hop hv) (isVal_isOf hv.2) with h | h | h | h | h | h | h
   ·exact absurd (do_clash hp h.2.2) (by decide)
   ·exact absurd (do_clash hp h.2.2.2) (by decide)
   ·exact absurd (do_clash hp h.2.2.2) (by decide)
   ·exact absurd (do_clash hp h.2.2.2) (by decide)
   ·exact ⟨h.1,h.2.1,h.2.2.1⟩
   ·exact absurd (do_clash hp h.2.2.2) (by decide)
   ·exact absurd (do_clash hp h.2.2.1) (by decide)
  have hvs:=((form_pair ht hp).val _ hh).1 hv
  obtain ⟨t0,t1,hargs⟩:=pair_args ht hp
  simp only [Ty.args,Pt.args] at hargs hvs
  subst hargs
  have hok:=okT_args ht
  simp only [Ty.args] at hok
  cases hvs with
  | cons k1 k2 =>
   cases k2 with
   | cons k2 k3 =>
    simp only [List.all_cons,List.all_nil,Bool.and_true,Bool.and_eq_true]
    exact ⟨ih _ (by simp) _ (hok t0 (by simp)) k1,ih _ (by simp) _ (hok t1 (by simp)) k2⟩
 | false =>
  simp only [Bool.false_eq_true,if_false]
  cases hd : isDo [100,97,116,97] td with
  | false => rfl
  | true =>
   simp only [if_true]
   have hop:=not_opaque (t:=.mk td tn ta tc ts) hd (by simp)
   obtain ⟨dt,hdt,hn,hcs⟩:=known_data ht hd
   simp only [Ty.name] at hn hcs
   rcases isOf_head hv.1 (val_tame hop hv) (isVal_isOf hv.2) with h | h | h | h | h | h | h
   ·exact absurd (do_clash hd h.2.2) (by decide)
   ·exact absurd (do_clash hd h.2.2.2) (by decide)
   ·exact absurd (do_clash hd h.2.2.2) (by decide)
   ·exact absurd (do_clash hd h.2.2.2) (by decide)
   ·exact absurd (do_clash hd h.2.2.2) (by decide)
   ·exact absurd (do_clash hd h.2.2.2) (by decide)
   ·obtain ⟨cn,hcn,hcname⟩:=h.2.2.2
    have hf:=form_con hr (t:=.mk td tn ta tc ts) hd hcn
    have hvs:=(hf.val _ ⟨h.1,hcname.symm,h.2.1⟩).1 hv
    simp only [Ty.name] at hcn
    rw [hcs] at hcn
    rw [← hn]
    refine hc dt hdt cn hcn ?_
    unfold conHas
    cases hh : cn.has with
    | false => rfl
    | true =>
     unfold conForm at hvs
     rw [hh] at hvs
     simp only [if_true,Pt.args] at hvs
     cases hvs with
     | cons k1 k2 =>
      simp only [Bool.not_true,Bool.false_or]
      exact ih _ (by simp) _ (((hr.cons dt hdt).2 cn hcn).2 hh) k1
theorem hasV_iff {l : List Dt} (hr : Right l) {S : ByteArray → Bool} (hS : Inh l S) {t : Ty} (ht : okT l t) : hasV S t = true ↔ ∃ v,Val l t v:=
 ⟨hasV_real hr hS.real t ht,fun ⟨v,hv⟩ => hasV_all hr hS.closed v t ht hv⟩
theorem right_of {l : List Dt} {t : Ty} (h : soundB l t = true) : Right l ∧ okT l t:=by
 have h0:=h
 unfold soundB at h0
 simp only [Bool.and_eq_true,List.all_eq_true] at h0
 have hk : ∀ u,closedB l u = true → okT l u:=by
  intro u hu
  rw [closed_there] at hu
  have hi : inL (dTo l l.length) = hasDt l:=by funext s; exact dTo_in l s
  unfold Ty.there at hu
  rw [hi,Bool.and_eq_true] at hu
  refine ⟨?_,hu.2⟩
  have:=hu.1
  unfold Ty.valid at this
  rw [Bool.and_eq_true] at this
  exact this.1
 refine ⟨⟨h0.2.1,h0.2.2.1,fun d hd => ?_⟩,hk t h0.2.2.2⟩
 have hd1:=h0.1 d hd
 unfold dtOk at hd1
 simp only [Bool.and_eq_true,decide_eq_true_eq,List.all_eq_true] at hd1
 refine ⟨hd1.2.1,fun c hc => ?_⟩
 have hc1:=hd1.2.2 c hc
 unfold conOk at hc1
 simp only [Bool.and_eq_true] at hc1
 refine ⟨hc1.1,fun hh => hk c.ty ?_⟩
 rw [hh] at hc1
 have:=hc1.2.1
 cases hcl : closedB l c.ty with
 | true => rfl
 | false => rw [hcl] at this; simp at this
end Go.Proofs.YtjeggkfgdhepaaaGreatDoor
