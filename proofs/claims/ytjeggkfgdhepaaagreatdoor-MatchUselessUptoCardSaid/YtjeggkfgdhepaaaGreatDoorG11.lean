/- The program's seek by the forms of a type. -/
import Derived.Test.YtjeggkfgdhepaaaGreatDoorG10
set_option linter.unusedVariables false
set_option linter.unusedSimpArgs false
namespace Go.Proofs.YtjeggkfgdhepaaaGreatDoor
open Go.RowKit
open Go.Proofs
open Go.Maps
def SF (bx : Nat) (f : Fm) (W : World) : Prop:=W.cell? ⟨bx,4,none⟩ = some (.slice f.at_ f.form.types.length f.cap) ∧ bx < W.heap.size
set_option maxRecDepth 100000 in
set_option maxHeartbeats 16000000 in
theorem seek_forms (K : Sk) (l : List Dt) (L : List (ByteArray × Value)) (hr : Right2 l L) (n : Nat) (ih : SeekTo K l L n) (bt ot ct : Nat) (t : Ty) (ts : List Ty) (A2 : Option Addr) (rs : List Rw) (c2 : Nat) (b1 off1 cr : Nat) (p : Pt) (ps : List Pt) (w : World)
  (h : SeekIn K l L ⟨some ⟨bt,ot,none⟩,ct,t :: ts⟩ A2 rs ⟨some ⟨b1,off1,none⟩,cr,p :: ps⟩ w) (hn : sizeL (t :: ts) (patsL rs) (p :: ps) ≤ n + 1) (hn2 : n < 100000) (hwild : (headsTo rs rs.length ++ [p]).all (fun q => wildD q.dof) = false) :
  Calls Tryz.prog 44 #[K.val,.slice (some ⟨bt,ot,none⟩) (ts.length + 1) ct,.slice A2 rs.length c2,.slice (some ⟨b1,off1,none⟩) (ps.length + 1) cr] w (SeekPost K l (t :: ts) (patsL rs) (p :: ps) w):=by
 have H:=Lib.hid h
 have HRS:=Lib.hid h.rin
 obtain ⟨t',bt',ot',ht,-,hat,hbt,y0,y1,y2⟩:=Ty.arg_at (k:=0) h.tin.1 (Below.refl _ _) (by simp)
 obtain ⟨p',b1',off1',hp,-,hap,hb1,z0,z1,z2,z3⟩:=Pt.arg_at (k:=0) h.win.1 (Below.refl _ _) (by simp)
 simp only [List.getElem?_cons_zero,Option.some.injEq] at ht hp
 simp only [Option.some.injEq,Addr.mk.injEq,and_true] at hat hap
 subst ht
 subst hp
 obtain ⟨rfl,rfl⟩:=hat
 obtain ⟨rfl,rfl⟩:=hap
 simp only [Nat.zero_mul,Nat.add_zero] at y0 y1 y2 z0 z1 z2 z3
 have HNE:=Lib.hid (fun (r : Rw) (hr : r ∈ rs) => (show 0 < r.pats.length by
  have:=(h.rok r hr).ok.length
  simp only [List.length_cons] at this
  omega))
 have HCF:=Lib.hid (fun (W : World) (hW : Below w.heap.size w W) => firsts_any A2 rs c2 W (h.rin.at_ hW hW.size) HNE.out)
 have HBT:=Lib.hid ((Below.refl w.heap.size w).alloc (Nat.le_refl _) (.cells #[.string t.dof,.string t.name,.slice t.at_ t.args.length t.cap] 25))
 have HKT:=Lib.hid (Blk.new w #[.string t.dof,.string t.name,.slice t.at_ t.args.length t.cap] 25)
 have HZ:=Lib.hid (fun W (hW : Below w.heap.size w W) => (⟨(hW.cell (p:=⟨b1,off1,none⟩) hb1).trans z0,(hW.cell (p:=⟨b1,off1 + 1,none⟩) hb1).trans z1,(hW.cell (p:=⟨b1,off1 + 2,none⟩) hb1).trans z2,(hW.cell (p:=⟨b1,off1 + 3,none⟩) hb1).trans z3⟩ : P4 b1 off1 p W))
 have HN:=Lib.hid hn
 have HWILD:=Lib.hid hwild
 have HR:=Lib.hid hr
 have HIH:=Lib.hid ih
 have hlen:=h.rlen
 have hcc : ts.length + 1 ≤ ct ∧ ct ≤ 9223372036854775807:=by have:=h.tin.2.2; simpa using this
 have hcr : ps.length + 1 ≤ cr ∧ cr ≤ 9223372036854775807:=by have:=h.win.2.2; simpa using this
 have hlt0 : ts.length ≤ 100000:=by unfold sizeL at hn; simp only [List.length_cons] at hn; omega
 have HLP:=Lib.hid (show ps.length = ts.length by have:=h.wok.ok.length; simp only [List.length_cons] at this; omega)
 have hlp : ps.length ≤ 100000:=by rw [HLP.out]; exact hlt0
 clear h z0 z1 z2 z3 hn hwild hr ih
 obtain ⟨i0,hi,hz0,hz1,hz2⟩:=info_parts infoPat
 obtain ⟨i1,hj,hw0,hw1,hw2⟩:=info_parts infoRow
 unfold Sk.val
 go_enter Tryz.func44,Tryz.ntmps44
 go_upto_region 4 with (fail)
 go_cut [11] (fun cv wx => ∃ (Ac : Option Addr) (cc : Nat),cv = .slice Ac (headsTo rs rs.length ++ [p]).length cc ∧ Hid (RowAt wx.heap.size wx 4 Ac ((headsTo rs rs.length ++ [p]).map Pt.cells)) ∧ Hid (Below w.heap.size w wx) ∧ Hid (Blk wx w.heap.size #[.string t.dof,.string t.name,.slice t.at_ t.args.length t.cap] 25))
 case first =>
  generalize w.alloc (.cells #[.string t.dof,.string t.name,.slice t.at_ t.args.length t.cap] 25) = w1 at HBT HKT ⊢
  refine region_ord (P4 b1 off1 p) (.read 0 (.read 2 (.read 3 (.read 4 (.two 1 (.one 5 (.one 6 (.one 7 .done))) 5 (.one 1 (.one 6 (.one 7 .done)))))))) (by kernel_rfl) (by kernel_rfl) (HZ.out _ HBT.out.drew) ?_
  iterate 4
   refine wpOrd_read _ ?_ rfl (by rfl) (fun W hW => ?_) ?_
   rotate_left
   ·unfold P4 at hW
    go_simp
    try with_reducible rfl
   simp only [Act.put,List.setIfInBounds_toArray,List.set_cons_zero,List.set_cons_succ]
  refine wpOrd_two ?_ ?_
  ·refine stepAt_of _ rfl rfl (fun K hK => ?_)
   go_simp
   refine Calls.mono (HCF.out _ HBT.out.drew) ?_
   rintro e w3 ⟨hb3,v3,rfl,A3,c3,rfl,hown3⟩
   have HB3:=Lib.hid (HBT.out.drew.trans (hb3.mono HBT.out.drew.size))
   have HK3:=Lib.hid ((HKT.out.drewN 1).below hb3 HKT.out.lt)
   have HBW:=Lib.hid (HB3.out.alloc HB3.out.size (.cells #[.string p.dof,.string p.name,.int .i64 p.num,.slice p.at_ p.args.length p.cap] 28))
   have HKW:=Lib.hid (HK3.out.alloc (.cells #[.string p.dof,.string p.name,.int .i64 p.num,.slice p.at_ p.args.length p.cap] 28))
   have HBB:=Lib.hid (show w.heap.size < w1.drew.heap.size from HKT.out.lt)
   have HOWN:=Lib.hid (World.ownsRow.alloc hown3 (.cells #[.string p.dof,.string p.name,.int .i64 p.num,.slice p.at_ p.args.length p.cap] 28))
   have HNEW : Hid (∀ (j : Nat) (u : Value),p.cells[j]? = some u → (w3.alloc (.cells #[.string p.dof,.string p.name,.int .i64 p.num,.slice p.at_ p.args.length p.cap] 28)).cell? ((⟨w3.heap.size,0,none⟩ : Addr).add j) = some u):=Lib.hid (World.news_of_block (heap_alloc_new w3 _))
   have HBASE : Hid (w1.drew.heap.size ≤ (w3.alloc (.cells #[.string p.dof,.string p.name,.int .i64 p.num,.slice p.at_ p.args.length p.cap] 28)).heap.size):=Lib.hid (by have:=hb3.size; simp at this ⊢; omega)
   refine hK _ _ ⟨HZ.out _ HB3.out, ?_⟩
   clear hK K hb3 hown3
   refine wpOrd_one ?_
   refine stepAt_of _ rfl rfl (fun K hK => ?_)
   go_simp
   refine hK _ _ ⟨HZ.out _ HBW.out, ?_⟩
   clear hK K
   refine wpOrd_one ?_
   refine stepAt_of _ rfl rfl (fun K hK => ?_)
   refine wp_append_lies _ (.tmp 42) (.tmp 46) 26 rfl w1.drew.heap.size 28 i0 _ 4 64 Tryz.underlying26 hi hz0 hz1 hz2 rfl (by decide) (.slice A3 (headsTo rs rs.length).length c3) (headsTo rs rs.length).length (((headsTo rs rs.length).map Pt.cells).flatten) (by simp [Act.eval,Act.put]) HOWN.out ⟨w3.heap.size,0,none⟩ 1 1 p.cells (by simp [Act.eval,Act.put]) rfl HNEW.out (by simp [Value.oneCell',Pt.cells]) (by omega) (by rw [headsTo_len (Nat.le_refl _)]; unfold maxLen; omega) (by rw [headsTo_len (Nat.le_refl _)]; omega) HBASE.out _ rfl ?_
   intro g2 c4 w6 hown hgrow hat hlt2
   have hbw6 : Below w.heap.size w w6:=HBW.out.grown hgrow HBW.out.size (fun i hi => by have:=(HOWN.out.lt i hi).1; have:=HBB.out; omega)
   have HB6:=Lib.hid hbw6
   have HO6:=Lib.hid hown
   have HK6:=Lib.hid ((hgrow.block w.heap.size HKW.out.lt (fun e => by have:=(HOWN.out.lt _ e.symm).1; have:=HBB.out; omega)).trans HKW.out)
   refine hK _ _ ⟨HZ.out _ HB6.out, ?_⟩
   clear hK K hown hgrow hat hbw6
   refine wpOrd_one ?_
   refine stepAt_of _ rfl rfl (fun K hK => ?_)
   go_simp
   refine hK _ _ ⟨HZ.out _ HB6.out, ?_⟩
   clear hK K
   refine wpOrd_done ?_
   refine NoPanic.normal ?_
   go_wp2_with fail
   go_meet
   exact ⟨some ⟨g2,0,none⟩,c4,by simp,PatsO.row (by have:=HO6.out; simpa using this),HB6.out,HK6.out⟩
  ·refine stepAt_of _ rfl rfl (fun K hK => ?_)
   go_simp
   have HKP:=Lib.hid (show Blk ((w1.alloc (.cells #[.string p.dof,.string p.name,.int .i64 p.num,.slice p.at_ p.args.length p.cap] 28)).drew) w1.heap.size #[.string p.dof,.string p.name,.int .i64 p.num,.slice p.at_ p.args.length p.cap] 28 from Blk.new w1 _ _)
   have HB4:=Lib.hid (show Below w.heap.size w ((w1.alloc (.cells #[.string p.dof,.string p.name,.int .i64 p.num,.slice p.at_ p.args.length p.cap] 28)).drew) from (HBT.out.alloc HBT.out.size _).drew)
   have HK4:=Lib.hid (show Blk ((w1.alloc (.cells #[.string p.dof,.string p.name,.int .i64 p.num,.slice p.at_ p.args.length p.cap] 28)).drew) w.heap.size _ _ from HKT.out.alloc _)
   refine hK _ _ ⟨HZ.out _ HB4.out, ?_⟩
   clear hK K
   generalize (w1.alloc (.cells #[.string p.dof,.string p.name,.int .i64 p.num,.slice p.at_ p.args.length p.cap] 28)).drew = w4 at HKP HB4 HK4 ⊢
   refine wpOrd_one ?_
   refine stepAt_of _ rfl rfl (fun K hK => ?_)
   go_simp
   refine Calls.mono (HCF.out _ HB4.out) ?_
   rintro e w3 ⟨hb3,v3,rfl,A3,c3,rfl,hown3⟩
   have HBW:=Lib.hid (HB4.out.trans (hb3.mono HB4.out.size))
   have HKW:=Lib.hid (HK4.out.below hb3 HK4.out.lt)
   have HBB:=Lib.hid (show w.heap.size < w4.heap.size from HK4.out.lt)
   have HOWN:=Lib.hid hown3
   have HNEW : Hid (∀ (j : Nat) (u : Value),p.cells[j]? = some u → w3.cell? ((⟨w1.heap.size,0,none⟩ : Addr).add j) = some u):=Lib.hid (World.news_of_block (HKP.out.below hb3 HKP.out.lt))
   have HBASE : Hid (w4.heap.size ≤ w3.heap.size):=Lib.hid hb3.size
   refine hK _ _ ⟨HZ.out _ HBW.out, ?_⟩
   clear hK K hb3 hown3
   refine wpOrd_one ?_
   refine stepAt_of _ rfl rfl (fun K hK => ?_)
   refine wp_append_lies _ (.tmp 42) (.tmp 46) 26 rfl w4.heap.size 28 i0 _ 4 64 Tryz.underlying26 hi hz0 hz1 hz2 rfl (by decide) (.slice A3 (headsTo rs rs.length).length c3) (headsTo rs rs.length).length (((headsTo rs rs.length).map Pt.cells).flatten) (by simp [Act.eval,Act.put]) HOWN.out ⟨w1.heap.size,0,none⟩ 1 1 p.cells (by simp [Act.eval,Act.put]) rfl HNEW.out (by simp [Value.oneCell',Pt.cells]) (by omega) (by rw [headsTo_len (Nat.le_refl _)]; unfold maxLen; omega) (by rw [headsTo_len (Nat.le_refl _)]; omega) HBASE.out _ rfl ?_
   intro g2 c4 w6 hown hgrow hat hlt2
   have hbw6 : Below w.heap.size w w6:=HBW.out.grown hgrow HBW.out.size (fun i hi => by have:=(HOWN.out.lt i hi).1; have:=HBB.out; omega)
   have HB6:=Lib.hid hbw6
   have HO6:=Lib.hid hown
   have HK6:=Lib.hid ((hgrow.block w.heap.size HKW.out.lt (fun e => by have:=(HOWN.out.lt _ e.symm).1; have:=HBB.out; omega)).trans HKW.out)
   refine hK _ _ ⟨HZ.out _ HB6.out, ?_⟩
   clear hK K hown hgrow hat hbw6
   refine wpOrd_one ?_
   refine stepAt_of _ rfl rfl (fun K hK => ?_)
   go_simp
   refine hK _ _ ⟨HZ.out _ HB6.out, ?_⟩
   clear hK K
   refine wpOrd_done ?_
   refine NoPanic.normal ?_
   go_wp2_with fail
   go_meet
   exact ⟨some ⟨g2,0,none⟩,c4,by simp,PatsO.row (by have:=HO6.out; simpa using this),HB6.out,HK6.out⟩
 case rest =>
  obtain ⟨Ac,cc,rfl,HCR,HCB,HCK⟩:=hcut
  have HNW:=Lib.hid (notWild_any (headsTo rs rs.length ++ [p]) Ac cc wc (by simp [headsTo_len (Nat.le_refl _)]; omega) HCR.out)
  rw [HWILD.out] at HNW
  clear y0 y1 y2
  have HPCOL:=Lib.hid (show p ∈ headsTo rs rs.length ++ [p] ∧ ∀ q r',q :: r' ∈ patsL rs → q ∈ headsTo rs rs.length ++ [p] from ⟨by simp,fun q r' hm => by
   obtain ⟨x,hx,he⟩:=List.mem_map.1 hm
   refine List.mem_append_left _ ?_
   unfold headsTo
   rw [List.take_length]
   exact List.mem_map.2 ⟨x,hx,by rw [he]; rfl⟩⟩)
  have HTAME:=Lib.hid (heads_tame HWILD.out HNE.out)
  have hcl : (headsTo rs rs.length ++ [p]).length ≤ 1048576:=by simp [headsTo_len (Nat.le_refl _)]; omega
  have HNUMS:=Lib.hid (show ∀ q ∈ headsTo rs rs.length ++ [p],-9223372036854775808 ≤ q.num ∧ q.num ≤ 9223372036854775807 from fun q hq => by
   have hin : q.In w.heap.size w:=by
    rcases List.mem_append.1 hq with h | h
    ·unfold headsTo at h
     rw [List.take_length] at h
     obtain ⟨r,hr,rfl⟩:=List.mem_map.1 h
     have hn:=HNE.out r hr
     have hall:=(HRS.out.each r hr).2.1
     cases hp : r.pats with
     | nil => rw [hp] at hn; simp at hn
     | cons q0 qs0 => exact hall q0 (by rw [hp]; simp)
    ·simp only [List.mem_singleton] at h
     subst h
     exact H.out.win.2.1 _ (by simp)
   obtain ⟨d9,s9,n9,a9,c9,l9⟩:=q
   exact (Pt.In_mk.1 hin).2.2.1)
  generalize hnl : headsTo rs rs.length ++ [p] = col at HNW HPCOL HCR HNUMS hcl ⊢
  clear hnl
  have htok:=H.out.tok t (by simp)
  have htin : t.In w.heap.size w:=H.out.tin.2.1 t (by simp)
  have hop : opaqueT t = false:=by
   rcases HTAME.out with h | ⟨q,r,hm,hw⟩
   ·have:=H.out.wok.ok
    cases this with
    | cons k1 _ => exact tame_clear k1 h
   ·obtain ⟨x,hx,he⟩:=List.mem_map.1 hm
    have:=(H.out.rok x hx).ok
    rw [he] at this
    cases this with
    | cons k1 _ => exact tame_clear k1 hw
  have HTC:=Lib.hid htok.2
  have HFORMS:=Lib.hid (fun (W : World) (hW : Below w.heap.size w W) (hrow : RowAt W.heap.size W 4 Ac (col.map Pt.cells)) => forms_any K l L t Ac col cc W HR.out.right.names htok.1 hop (htin.next hW) htok.2.top.1 hrow hcl HNUMS.out (H.out.env.next hW).dts (H.out.env.sk.next hW))
  have HFOK:=Lib.hid (fun (fs : List Form) (h : IsForms l t col fs) => forms_ok HR.out.right htok.1 h)
  have HU:=Lib.hid (fun (fs : List Form) (h : IsForms l t col fs) => useful_forms l t ts (patsL rs) p ps fs col (HFOK.out fs h) (fun r hr => by
   obtain ⟨x,hx,rfl⟩:=List.mem_map.1 hr
   exact (H.out.rok x hx).ok) H.out.wok.ok HPCOL.out.1 HPCOL.out.2)
  have hkb:=H.out.env.sk.lt
  clear htok htin hop hcl HPCOL
  unfold Ty.val Sk.val at *
  go_wp2_with fail
  refine Calls.mono HNW.out ?_
  rintro e w2 ⟨rfl,hb2⟩
  have HB2:=Lib.hid (HCB.out.trans (hb2.mono HCB.out.size))
  have HK2:=Lib.hid (HCK.out.below hb2 HCK.out.lt)
  have HCR2:=Lib.hid (RowAt.wider (RowAt.keep HCR.out hb2) hb2.size)
  clear hb2
  obtain ⟨y0,y1,y2⟩:=HK2.out.three
  have yl:=HK2.out.lt
  go_wp2_with fail
  refine Calls.mono (HFORMS.out _ HB2.out HCR2.out) ?_
  rintro e w3 ⟨hb3,Af,cf,fms,rfl,hrowf,hfin,hfl,hisf⟩
  have HB3:=Lib.hid (HB2.out.trans (hb3.mono HB2.out.size))
  have HROWF:=Lib.hid hrowf
  have HFIN:=Lib.hid hfin
  have HFO:=Lib.hid (HFOK.out _ hisf)
  have HUF:=Lib.hid (HU.out _ hisf)
  have HFC:=Lib.hid (forms_caps hisf HTC.out H.out.caps)
  clear hb3 y0 y1 y2 yl hrowf hfin hisf HU HFOK HFORMS HNW HCR HCR2
  go_wp2_with fail
  go_loopw [94] (fun iv wr => ∃ k : Nat,iv = .int .i64 k ∧ k ≤ fms.length ∧ Hid (Sm K w3 wr) ∧ Hid (∀ f ∈ fms.take k,NoForm l ts (patsL rs) (p :: ps) f.form)) (fun iv _ => fms.length - (intOf iv).toNat)
  case atStart => exact ⟨0,rfl,Nat.zero_le _,Lib.hid ((H.out.env.sk.next HB3.out).same (Below.refl _ _)),Lib.hid (by simp)⟩
  case round =>
   obtain ⟨k,rfl,hk,HS,HNF⟩:=hrel
   by_cases hlt : k < fms.length
   ·obtain ⟨f,bf,of_,hq,hmem,rfl,hbf,x0,x1,x2,x3,x4⟩:=Fm.arg_at (HS.out.row (Nat.le_refl _) (fm_text fms) HROWF.out) hlt
    have HTK:=Lib.hid (take_snoc hq)
    have HMF:=Lib.hid (List.mem_map.2 ⟨f,hmem,rfl⟩ : f.form ∈ fms.map Fm.form)
    have HSW:=Lib.hid ((H.out.env.sk.same HB3.out).trans HS.out)
    have HFI:=Lib.hid (fun (W : World) (hW : Sm K wr W) => (hW.rt (HS.out.rt (HFIN.out f hmem).1)))
    have hf0:=(HFIN.out f hmem).2.2.1
    have HFN:=Lib.hid (HFIN.out f hmem).2.1
    have HFSZ:=Lib.hid (HFIN.out f hmem).2.2.2
    have HOA:=Lib.hid (fun (W : World) (hW : Sm K wr W) (b o c : Nat) (q : Pt) (qs : List Pt) (hin : Rw.In w.heap.size w ⟨some ⟨b,o,none⟩,c,q :: qs⟩) (hok : RowOk l (t :: ts) (q :: qs)) => opened_any f b o c q qs W hf0 (HFI.out W hW) ((HSW.out.trans hW).rw hin)
     (by
      have h1:=hok.ok.length
      simp only [List.length_cons] at h1
      have h2:=hok.ok
      cases h2 with
      | cons k1 k2 => have:=well_args k1.1; omega) (hok.cap q (by simp)).top.1)
    have hbw3 : bf < wr.heap.size:=Nat.lt_of_lt_of_le hbf HS.out.size
    obtain ⟨wx,rfl⟩ : ∃ wx : World,wx = wr:=⟨_,rfl⟩
    have HBX:=Lib.hid ((Below.refl wx.heap.size wx).alloc (Nat.le_refl _) (.cells #[.string f.form.dof,.string f.form.name,.int .i64 f.form.num,.slice none 0 0,.slice f.at_ f.form.types.length f.cap] 138))
    have HKX:=Lib.hid (Blk.new wx #[.string f.form.dof,.string f.form.name,.int .i64 f.form.num,.slice none 0 0,.slice f.at_ f.form.types.length f.cap] 138)
    have HSX:=Lib.hid ((H.out.env.sk.sm HSW.out).same HBX.out)
    unfold Fm.val at HOA
    clear hq hmem hbf
    go_wp2_with fail
    generalize wx.alloc (.cells #[.string f.form.dof,.string f.form.name,.int .i64 f.form.num,.slice none 0 0,.slice f.at_ f.form.types.length f.cap] 138) = w0 at HBX HKX HSX ⊢
    refine Calls.mono (HOA.out w0 HSX.out b1 off1 cr p ps H.out.win H.out.wok) ?_
    rintro e w4 ⟨hb4,hres⟩
    have HS4:=Lib.hid (HSX.out.then hb4)
    have HKX4:=Lib.hid (HKX.out.below hb4 HKX.out.lt)
    clear hb4
    generalize hon : opened f.form (p :: ps) = on at hres
    have HON:=Lib.hid hon
    clear hon x0 x1 x2 x3 x4
    obtain ⟨x0,x1,x2,x3,x4⟩:=HKX4.out.five
    have xl:=HKX4.out.lt
    cases on
    case none =>
     simp only at hres
     subst hres
     go_wp2_with fail
     refine ⟨⟨k + 1,by go_num,by omega,Lib.hid (HS.out.trans HS4.out),Lib.hid ?_⟩,by simp [intOf]; omega⟩
     rw [HTK.out]
     intro g hg
     rcases List.mem_append.1 hg with h | h
     ·exact HNF.out g h
     ·simp only [List.mem_singleton] at h
      subst h
      rintro ⟨nx,h1,-⟩
      rw [HON.out] at h1
      cases h1
    case some next =>
     simp only at hres
     obtain ⟨vn,rfl,An,cn,rfl,hown4⟩:=hres
     have HO4:=Lib.hid hown4
     clear hown4
     go_wp2_with fail
     go_loopw [108,23] (fun iv ov wr => ∃ (j : Nat) (A : Option Addr) (c : Nat) (acc : List Rw),iv = .int .i64 j ∧ j ≤ rs.length ∧ ov = .slice A acc.length c ∧ acc.length ≤ j ∧ Hid (Below w4.heap.size w4 wr) ∧ Hid (wr.ownsRow w4.heap.size 26 1 (.slice A acc.length c) acc.length (acc.map Rw.val)) ∧ Hid (∀ r ∈ acc,OwnRw w4 wr r) ∧ Hid (patsL acc = (patsL (rs.take j)).filterMap (opened f.form))) (fun iv _ _ => rs.length - (intOf iv).toNat)
     case atStart => exact ⟨0,none,0,[],rfl,Nat.zero_le _,rfl,Nat.le_refl _,Lib.hid (Below.refl _ _),Lib.hid (World.ownsRow_nil _ _ _ _),Lib.hid (fun r hr => by cases hr),Lib.hid rfl⟩
     case round =>
      obtain ⟨j,Aa,ca,acc,rfl,hjl,rfl,haj,HB,HO,HOR,HPA⟩:=hrel
      have hs0:=HB.out.size
      have HKW:=Lib.hid (HKX4.out.below HB.out HKX4.out.lt)
      have HSJ:=Lib.hid (HS4.out.then HB.out)
      clear x0 x1 x2 x3 x4 xl
      obtain ⟨x0,x1,x2,x3,x4⟩:=HKW.out.five
      have xl:=HKW.out.lt
      by_cases hlt2 : j < rs.length
      ·obtain ⟨r,b0,off,hr,hmem,rfl,hb,z0⟩:=((HSW.out.trans HSJ.out).rows HRS.out).arg_at (Below.refl _ _) hlt2
       have HTS:=Lib.hid (filter_snoc (f:=f.form) hr)
       obtain ⟨ra,rc,rp⟩:=r
       cases rp with
       | nil => exact absurd (HNE.out _ hmem) (by simp)
       | cons q qs =>
       have hri:=HRS.out.each _ hmem
       obtain ⟨b2,off2,rfl,hb2⟩:=hri.some
       have HRI:=Lib.hid hri
       have HRK:=Lib.hid (H.out.rok _ hmem)
       unfold Rw.val at z0
       simp only [List.length_cons] at z0
       clear hr hri hmem hb2
       go_wp2_with fail
       refine Calls.mono (HOA.out wr HSJ.out b2 off2 rc q qs HRI.out HRK.out) ?_
       rintro e w5 ⟨hb5,hres⟩
       have HB5:=Lib.hid (HB.out.trans (hb5.mono hs0))
       have HO5:=Lib.hid (row_stays HO.out fun i hi => hb5.block i (HO.out.lt i hi).2)
       have HOR5:=Lib.hid (fun r hr => (HOR.out r hr).below hb5)
       generalize hoq : opened f.form (q :: qs) = oq at hres HTS
       have HOQ:=Lib.hid hoq
       clear hoq hb5 z0
       cases oq
       case none =>
        simp only at hres
        subst hres
        simp only [List.append_nil] at HTS
        clear x0 x1 x2 x3 x4 xl
        go_wp2_with fail
        exact ⟨⟨j + 1,Aa,ca,acc,by go_num,by omega,rfl,by omega,HB5.out,HO5.out,HOR5.out,Lib.hid (by rw [HTS.out]; exact HPA.out)⟩,by simp [intOf]; omega⟩
       case some oq =>
        simp only at hres
        obtain ⟨vq,rfl,Aq,cq,rfl,hownq⟩:=hres
        have HOQW:=Lib.hid (show OwnRw w4 w5 ⟨Aq,cq,oq⟩ from ⟨own_wide hownq hs0,opened_in (fun q' hq' => (HSW.out.trans HS4.out).wide_pt (HRI.out.2.1 q' hq')) HOQ.out⟩)
        clear hownq x0 x1 x2 x3 x4 xl
        go_wp2_with (at_builtin; go_must (refine wpList_append_own_at _ rfl (.tmp 119) (.tmp 121) 80 rfl w4.heap.size 26 i1 _ 1 24 Tryz.underlying80 hj hw0 hw1 hw2 rfl (by decide) (.slice Aa acc.length ca) acc.length (acc.map Rw.val) rfl ?ia0 ⟨w5.heap.size,0,none⟩ 1 1 [.slice Aq oq.length cq] rfl rfl ?ia1 ?ia2 ?ia3 ?ia4 ?ia5 ?_))
        case ia0 => exact World.ownsRow.alloc HO5.out _
        case ia1 => exact World.news_of_block (heap_alloc_new w5 _)
        case ia2 => simp [Value.oneCell']
        case ia3 => unfold maxLen; omega
        case ia4 => omega
        case ia5 => have:=HB5.out.size; simp; omega
        intro v' w6 hown hgrow _ _
        obtain ⟨A6,c6,rfl,-⟩:=row_slice hown
        have hb6 : Below w4.heap.size w4 w6:=(HB5.out.alloc HB5.out.size _).grown hgrow (by have:=HB5.out.size; simp; omega) (fun i hi => (HO5.out.lt i hi).1)
        have hbb : Below w5.heap.size w5 (w5.alloc (.cells #[.slice Aq oq.length cq] 26)):=(Below.refl _ _).alloc (Nat.le_refl _) _
        have hkeep : ∀ r,OwnRw w4 w5 r → OwnRw w4 w6 r:=fun r hr => (hr.below hbb).grown (World.ownsRow.alloc HO5.out _) hgrow
        have HB6:=Lib.hid hb6
        have HO6:=Lib.hid hown
        have HKEEP:=Lib.hid hkeep
        clear hown hgrow hb6 hkeep hbb
        go_wp2_with fail
        refine ⟨⟨j + 1,A6,c6,acc ++ [⟨Aq,cq,oq⟩],by go_num,by omega,by simp,by simp; omega,HB6.out,Lib.hid ?_,Lib.hid ?_,Lib.hid ?_⟩,by simp [intOf]; omega⟩
        ·rw [List.length_append,List.map_append]
         exact HO6.out
        ·intro r hr
         rcases List.mem_append.1 hr with h | h
         ·exact HKEEP.out r (HOR5.out r h)
         ·simp only [List.mem_singleton] at h
          subst h
          exact HKEEP.out _ HOQW.out
        ·rw [HTS.out,← HPA.out]
         unfold patsL
         rw [List.map_append]
         rfl
      ·have hj2 : j = rs.length:=by omega
       subst hj2
       have hpa:=HPA.out
       rw [List.take_length] at hpa
       have HPA2:=Lib.hid hpa
       clear hpa
       go_wp2_with fail
       have HF1:=Lib.hid (HFO.out.each f.form HMF.out)
       have HSWR:=Lib.hid (HSW.out.trans HSJ.out)
       have HBOX:=Lib.hid (fun (W : World) (hW : Sm K wr W) => (show SF wx.heap.size f W from ⟨(hW.blk HKW.out (by decide)).cell 4,(hW.blk HKW.out (by decide)).lt⟩))
       have HD:=Lib.hid ((H.out.env.sk.sm HSWR.out).same (Below.refl _ wr).drew)
       have HBD:=Lib.hid (Below.refl wr.heap.size wr).drew
       go_wp2_with fail
       refine region_mix (SF wx.heap.size f) [(0,true),(1,true),(2,true),(3,true),(4,true),(7,true),(8,true),(5,false),(6,false),(9,false),(10,true),(11,true),(12,true),(13,false),(14,false)] 14 (by kernel_rfl) (by kernel_rfl) (HBOX.out _ HD.out) ?_
       simp only [pickM,List.filterMap_cons,List.getElem?_cons_zero,List.getElem?_cons_succ,List.filterMap_nil,Option.map_some]
       generalize wr.drew = wd at HD HBD ⊢
       iterate 4
        refine wpMix_read ?_ (by rfl) (fun W hW => ?_) ?_
        rotate_left
        ·unfold SF at hW
         go_simp
         try with_reducible rfl
        simp only [Act.put,List.setIfInBounds_toArray,List.set_cons_zero,List.set_cons_succ]
       refine wpMix_read (.slice (tailAd 3 bt ot ct) ts.length (ct - 1)) (by rfl) (fun W hW => ?_) ?_
       ·unfold tailAd
        by_cases hc1 : ct = 1
        ·subst hc1
         have hts : ts = []:=List.eq_nil_of_length_eq_zero (by omega)
         rw [hts]
         go_simp
        ·rw [if_neg hc1]
         go_simp
         intro h9
         omega
       simp only [Act.put,List.setIfInBounds_toArray,List.set_cons_zero,List.set_cons_succ]
       iterate 2
        refine wpMix_read ?_ (by rfl) (fun W hW => ?_) ?_
        rotate_left
        ·unfold SF at hW
         go_simp
         try with_reducible rfl
        simp only [Act.put,List.setIfInBounds_toArray,List.set_cons_zero,List.set_cons_succ]
       have HBT9:=Lib.hid ((Below.refl wd.heap.size wd).alloc (Nat.le_refl _) (.cells #[.slice f.at_ f.form.types.length f.cap,.slice (tailAd 3 bt ot ct) ts.length (ct - 1)] 23))
       have HTAIL:=Lib.hid (fun (W : World) (hW : Sm K w W) => (show Rt.In W.heap.size W ⟨tailAd 3 bt ot ct,ct - 1,ts⟩ from hW.rt (tail_ty H.out.tin)))
       have HCT:=Lib.hid (show Calls Tryz.prog 91 #[.slice (some ⟨wd.heap.size,0,none⟩) 2 2] (wd.alloc (.cells #[.slice f.at_ f.form.types.length f.cap,.slice (tailAd 3 bt ot ct) ts.length (ct - 1)] 23)) fun e w' => Below (wd.alloc (.cells #[.slice f.at_ f.form.types.length f.cap,.slice (tailAd 3 bt ot ct) ts.length (ct - 1)] 23)).heap.size (wd.alloc (.cells #[.slice f.at_ f.form.types.length f.cap,.slice (tailAd 3 bt ot ct) ts.length (ct - 1)] 23)) w' ∧ ∃ v,e = .returned v ∧ TysO (wd.alloc (.cells #[.slice f.at_ f.form.types.length f.cap,.slice (tailAd 3 bt ot ct) ts.length (ct - 1)] 23)).heap.size w' v (f.form.types ++ ts) by
        have hb9:=HBT9.out
        have h1 : Rt.In (wd.alloc (.cells #[.slice f.at_ f.form.types.length f.cap,.slice (tailAd 3 bt ot ct) ts.length (ct - 1)] 23)).heap.size (wd.alloc (.cells #[.slice f.at_ f.form.types.length f.cap,.slice (tailAd 3 bt ot ct) ts.length (ct - 1)] 23)) f.rt:=(Rt.In.keep (HFI.out _ (HSJ.out.trans HD.out)) hb9).wider hb9.size
        have h2 : Rt.In (wd.alloc (.cells #[.slice f.at_ f.form.types.length f.cap,.slice (tailAd 3 bt ot ct) ts.length (ct - 1)] 23)).heap.size (wd.alloc (.cells #[.slice f.at_ f.form.types.length f.cap,.slice (tailAd 3 bt ot ct) ts.length (ct - 1)] 23)) ⟨tailAd 3 bt ot ct,ct - 1,ts⟩:=(Rt.In.keep (HTAIL.out _ (HSWR.out.trans HD.out)) hb9).wider hb9.size
        have h3:=concatT_any (some ⟨wd.heap.size,0,none⟩) [f.rt,⟨tailAd 3 bt ot ct,ct - 1,ts⟩] 2 (wd.alloc (.cells #[.slice f.at_ f.form.types.length f.cap,.slice (tailAd 3 bt ot ct) ts.length (ct - 1)] 23)) ⟨two_cells wd _ _ _,fun r hr => by
         simp only [List.mem_cons,List.not_mem_nil,or_false] at hr
         rcases hr with rfl | rfl
         ·exact h1
         ·exact h2,by simp⟩ (fun r hr hno => by
         simp only [List.mem_cons,List.not_mem_nil,or_false] at hr
         rcases hr with rfl | rfl
         ·exact HFN.out hno
         ·unfold tailAd at hno
          simp only at hno
          split at hno <;> cases hno) (by unfold Fm.rt; simp; omega)
        have e : ([f.rt,(⟨tailAd 3 bt ot ct,ct - 1,ts⟩ : Rt)].flatMap Rt.tys) = f.form.types ++ ts:=by unfold Fm.rt; simp
        rw [e] at h3
        exact h3)
       refine wpMix_step rfl (fun K9 hK => ?_)
       go_simp
       refine hK _ _ (fun _ => HBOX.out _ (HD.out.then HBT9.out)) ?_
       clear hK K9
       refine wpMix_step rfl (fun K9 hK => ?_)
       go_simp
       refine Calls.mono HCT.out ?_
       rintro e w7 ⟨hb7,v7,rfl,A7,c7,rfl,hown7⟩
       have hb77 : Below wd.heap.size wd w7:=HBT9.out.trans (hb7.mono HBT9.out.size)
       have HB7:=Lib.hid (HBD.out.trans (hb77.mono HBD.out.size))
       have HS7:=Lib.hid (HD.out.then hb77)
       have HSW7:=Lib.hid (HSWR.out.trans HS7.out)
       have HOT:=Lib.hid hown7
       clear hb7 hb77 hown7
       refine hK _ _ (fun _ => HBOX.out _ HS7.out) ?_
       clear hK K9
       have HSEEK:=Lib.hid (show Calls Tryz.prog 44 #[.pointer (some ⟨K.b,0,none⟩),.slice A7 (f.form.types.length + ts.length) c7,.slice Aa acc.length ca,.slice An next.length cn] w7 (SeekPost K l (f.form.types ++ ts) ((patsL rs).filterMap (opened f.form)) next w7) by
        have hb47 : Below w4.heap.size w4 w7:=HB.out.trans (HB7.out.mono HB.out.size)
        have hrow9:=row_vals (row_stays HO.out fun i hi => HB7.out.block i (HO.out.lt i hi).2)
        rw [List.map_map] at hrow9
        have htin7 : Rt.In w7.heap.size w7 ⟨A7,c7,f.form.types ++ ts⟩:=tysO_in HOT.out fun u hu => by
         rcases List.mem_append.1 hu with h | h
         ·exact (HFI.out _ (HSJ.out.trans HS7.out)).2.1 u h
         ·exact (HTAIL.out _ HSW7.out).2.1 u h
        have hnext : ∀ q ∈ next,q.In w4.heap.size w4:=opened_in (fun q hq => (HSW.out.trans HS4.out).wide_pt (H.out.win.2.1 q hq)) HON.out
        have hin9 : SeekIn K l L ⟨A7,c7,f.form.types ++ ts⟩ Aa acc ⟨An,cn,next⟩ w7:={
         env:=H.out.env.sm HSW7.out
         caps:=H.out.caps
         tin:=htin7
         tno:=(own_cap HOT.out).2.1
         tok:=fun u hu => by
          rcases List.mem_append.1 hu with h | h
          ·exact ⟨HF1.out.types u h,HFC.out f.form HMF.out u h⟩
          ·exact H.out.tok u (by simp [h])
         rin:=⟨hrow9,fun r hr => Rw.In.wider (Rw.In.keep ((HOR.out r hr).in_ HB.out) HB7.out) HB7.out.size,by omega⟩
         rok:=fun r hr => by
          have hm : r.pats ∈ (patsL rs).filterMap (opened f.form):=by
           rw [← HPA2.out]
           exact List.mem_map.2 ⟨r,hr,rfl⟩
          obtain ⟨y,hy,ho⟩:=List.mem_filterMap.1 hm
          obtain ⟨x,hx,rfl⟩:=List.mem_map.1 hy
          exact poks_opened HF1.out (H.out.rok x hx) ho
         rlen:=by omega
         win:=Rw.In.wider (Rw.In.keep (PatsO.in_ HO4.out hnext) hb47) hb47.size
         wok:=poks_opened HF1.out H.out.wok HON.out }
        have h8:=HIH.out ⟨A7,c7,f.form.types ++ ts⟩ Aa acc ca ⟨An,cn,next⟩ w7 hin9 (by
         rw [HPA2.out]
         have g1:=filter_weight f.form (patsL rs)
         have g2:=opened_weight HON.out
         have g3:=HN.out
         have g4:=HTAME.out
         unfold sizeL at g3 ⊢
         simp only [List.length_cons,List.length_append] at g3 ⊢
         rcases g4 with h | h
         ·have:=g2.2 h
          omega
         ·have:=g1.2 h
          omega)
        rw [HPA2.out] at h8
        rw [← List.length_append]
        exact h8)
       refine wpMix_step rfl (fun K9 hK => ?_)
       go_simp
       refine Calls.mono HSEEK.out ?_
       rintro e w8 ⟨hs8,hres⟩
       have HS8:=Lib.hid (HS7.out.trans hs8)
       have HKX8:=Lib.hid ((HS7.out.trans hs8).blk HKW.out (by decide))
       clear hs8
       rcases hres with ⟨rfl,hnu⟩ | ⟨hu,A8,c8,out,rfl,hin8,hno8,hem8,hlen8,hval8⟩
       ·refine hK _ _ (fun _ => HBOX.out _ HS8.out) ?_
        clear hK K9
        have HNU:=Lib.hid hnu
        clear hnu
        iterate 3
         refine wpMix_read ?_ (by rfl) (fun W hW => ?_) ?_
         rotate_left
         ·unfold SF at hW
          go_simp
          try with_reducible rfl
         simp only [Act.put,List.setIfInBounds_toArray,List.set_cons_zero,List.set_cons_succ]
        iterate 2
         refine wpMix_step rfl (fun K9 hK => ?_)
         go_simp
         refine hK _ _ (fun _ => HBOX.out _ HS8.out) ?_
         clear hK K9
        refine wpMix_nil ?_
        refine NoPanic.normal ?_
        go_wp2_with fail
        refine ⟨⟨k + 1,by go_num,by omega,Lib.hid ((HS.out.trans HSJ.out).trans HS8.out),Lib.hid ?_⟩,by simp [intOf]; omega⟩
        rw [HTK.out]
        intro g hg
        rcases List.mem_append.1 hg with h | h
        ·exact HNF.out g h
        ·simp only [List.mem_singleton] at h
         subst h
         rintro ⟨nx,h1,h2⟩
         rw [HON.out] at h1
         simp only [Option.some.injEq] at h1
         subst h1
         exact HNU.out h2
       ·refine hK _ _ (fun _ => HBOX.out _ HS8.out) ?_
        clear hK K9
        have HIN8:=Lib.hid hin8
        have HNO8:=Lib.hid hno8
        have HEM8:=Lib.hid hem8
        have HVAL8:=Lib.hid hval8
        have hl8 : out.length ≤ 100010:=by rw [hlen8,List.length_append]; omega
        have hko : f.form.types.length ≤ out.length:=by rw [hlen8,List.length_append]; omega
        have HTKL:=Lib.hid (show (out.take f.form.types.length).length = f.form.types.length by rw [List.length_take]; omega)
        have HLEN8:=Lib.hid hlen8
        have hkc : f.form.types.length ≤ c8:=Nat.le_trans hko hin8.2.2.1
        have hc8 : out.length ≤ c8 ∧ c8 ≤ 9223372036854775807:=hin8.2.2
        have HUSE:=Lib.hid (HUF.out.2 ⟨f.form,HMF.out,next,HON.out,hu⟩)
        have HSW8:=Lib.hid (HSWR.out.trans HS8.out)
        clear hlen8 hval8 hu
        iterate 3
         refine wpMix_read ?_ (by rfl) (fun W hW => ?_) ?_
         rotate_left
         ·unfold SF at hW
          go_simp
          try with_reducible rfl
         simp only [Act.put,List.setIfInBounds_toArray,List.set_cons_zero,List.set_cons_succ]
        iterate 2
         refine wpMix_step rfl (fun K9 hK => ?_)
         go_simp
         refine hK _ _ (fun _ => HBOX.out _ HS8.out) ?_
         clear hK K9
        refine wpMix_nil ?_
        refine NoPanic.normal ?_
        clear x0 x1 x2 x3 x4 xl
        obtain ⟨x0,x1,x2,x3,x4⟩:=HKX8.out.five
        have xl:=HKX8.out.lt
        rcases A8 with _ | ad8
        ·have hc0 : c8 = 0:=hno8 rfl
         have hout : out = []:=List.eq_nil_of_length_eq_zero (by omega)
         have hk0 : f.form.types.length = 0:=by omega
         subst hout
         subst hc0
         clear hin8 hno8 hem8 hl8 hko hkc hc8 HTKL
         have HTKL:=Lib.hid (show ([] : List Pt).length = 0 from rfl)
         have HCLF:=Lib.hid (fun (W : World) (hb : Below w8.heap.size w8 W) => (show Calls Tryz.prog 92 #[.slice none 0 0] W (ClonePost [] W) from clone_any none [] 0 W ⟨fun h => by simp at h,fun q hq => (by cases hq),Nat.le_refl _,by simp⟩ (fun _ => rfl) (by simp)))
         go_wp2_with fail
         have HBH:=Lib.hid ((Below.refl w8.heap.size w8).alloc (Nat.le_refl _) (.cells #[.string f.form.dof,.string f.form.name,.int .i64 f.form.num,.slice none 0 0] 28))
         have HKH:=Lib.hid (Blk.new w8 #[.string f.form.dof,.string f.form.name,.int .i64 f.form.num,.slice none 0 0] 28)
         generalize w8.alloc (.cells #[.string f.form.dof,.string f.form.name,.int .i64 f.form.num,.slice none 0 0] 28) = w9 at HBH HKH ⊢
         refine Calls.mono (HCLF.out _ HBH.out) ?_
         rintro e w10 ⟨hb10,A9,c9,rfl,hin9,hno9,hown9⟩
         have HB10:=Lib.hid (HBH.out.trans (hb10.mono HBH.out.size))
         have HKH10:=Lib.hid (HKH.out.below hb10 HKH.out.lt)
         have HOWN9:=Lib.hid hown9
         have hkh9:=HKH.out.lt
         try rw [HTKL.out]
         clear hb10 hin9 hno9 hown9 x0 x1 x2 x3 x4 xl
         have hl10:=HKH10.out.lt
         obtain ⟨v0,v1,v2,v3⟩:=HKH10.out.four
         have d3:=HKH10.out.free 3
         go_wp2_with fail
         have HKH11:=Lib.hid (show Blk (w10.setCell ⟨w8.heap.size,3,none⟩ (.slice A9 0 c9)) w8.heap.size #[.string f.form.dof,.string f.form.name,.int .i64 f.form.num,.slice A9 0 c9] 28 from (HKH10.out.set 3 (.slice A9 0 c9)).cast rfl)
         have HB11:=Lib.hid (HB10.out.setCell (p:=⟨w8.heap.size,3,none⟩) (Nat.le_refl _) (.slice A9 0 c9))
         have HOWN11:=Lib.hid (row_stays (w1:=w10.setCell ⟨w8.heap.size,3,none⟩ (.slice A9 0 c9)) HOWN9.out fun i hi => Below.heap_setCell _ _ _ _ (show i ≠ w8.heap.size by have:=(HOWN9.out.lt i hi).1; omega))
         clear v0 v1 v2 v3 d3 hl10
         generalize w10.setCell ⟨w8.heap.size,3,none⟩ (.slice A9 0 c9) = w11 at HKH11 HB11 HOWN11 ⊢
         have HS11:=Lib.hid (HSW8.out.then HB11.out)
         have HBXH:=Lib.hid (fun (W : World) (hW : Below w11.heap.size w11 W) => (show SH w8.heap.size f A9 c9 W by
          have k1:=HKH11.out.below hW HKH11.out.lt
          exact ⟨k1.cell 0,k1.cell 1,k1.cell 2,by rw [hk0]; exact k1.cell 3,k1.lt⟩))
         refine region_mix (SH w8.heap.size f A9 c9) [(0,true),(2,true),(3,true),(4,true),(1,false),(5,false),(6,false),(7,false)] 7 (by kernel_rfl) (by kernel_rfl) (HBXH.out _ (Below.refl _ _).drew) ?_
         simp only [pickM,List.filterMap_cons,List.getElem?_cons_zero,List.getElem?_cons_succ,List.filterMap_nil,Option.map_some]
         have HBD11:=Lib.hid (Below.refl w11.heap.size w11).drew
         generalize w11.drew = w12 at HBD11 ⊢
         iterate 3
          refine wpMix_read ?_ (by rfl) (fun W hW => ?_) ?_
          rotate_left
          ·unfold SH at hW
           go_simp
           try with_reducible rfl
          simp only [Act.put,List.setIfInBounds_toArray,List.set_cons_zero,List.set_cons_succ]
         refine wpMix_read (.slice (none) 0 0) (by rfl) (fun W hW => ?_) ?_
         ·go_simp
         simp only [Act.put,List.setIfInBounds_toArray,List.set_cons_zero,List.set_cons_succ]
         have HB13:=Lib.hid ((Below.refl w12.heap.size w12).alloc (Nat.le_refl _) (.cells #[.string f.form.dof,.string f.form.name,.int .i64 f.form.num,.slice A9 0 c9] 28))
         refine wpMix_step rfl (fun K9 hK => ?_)
         go_simp
         refine hK _ _ (fun _ => HBXH.out _ (HBD11.out.trans (HB13.out.mono HBD11.out.size))) ?_
         clear hK K9
         have HROW:=Lib.hid (show (w12.alloc (.cells #[.string f.form.dof,.string f.form.name,.int .i64 f.form.num,.slice A9 0 c9] 28)).ownsRow w12.heap.size 28 4 (.slice (some ⟨w12.heap.size,0,none⟩) 1 1) 1 [.string f.form.dof,.string f.form.name,.int .i64 f.form.num,.slice A9 0 c9] from ⟨rfl,.inr ⟨_,1,_,rfl,Nat.le_refl _,heap_alloc_new w12 _,Nat.le_refl _,by decide,rfl,rfl⟩⟩)
         have HB812:=Lib.hid (HB11.out.trans (HBD11.out.mono HB11.out.size))
         have HB813:=Lib.hid (HB812.out.trans (HB13.out.mono HB812.out.size))
         have HDROP:=Lib.hid (show RowAt w8.heap.size (w12.alloc (.cells #[.string f.form.dof,.string f.form.name,.int .i64 f.form.num,.slice A9 0 c9] 28)) 4 none (([] : List Pt).map Pt.cells) from fun h => by simp at h)
         generalize w12.alloc (.cells #[.string f.form.dof,.string f.form.name,.int .i64 f.form.num,.slice A9 0 c9] 28) = w13 at HB13 HROW HB813 HDROP ⊢
         have hdl : (([] : List Pt).map Pt.cells).length = 0:=by rfl
         refine wpMix_step rfl (fun K9 hK => ?_)
         refine wp_append_rowat (.tmp 149) (.tmp 152) 26 rfl w12.heap.size 28 i0 _ 4 64 Tryz.underlying26 hi hz0 hz1 hz2 rfl (by decide) (.slice (some ⟨w12.heap.size,0,none⟩) 1 1) 1 _ (by simp [Act.eval,Act.put]) HROW.out w8.heap.size (none) (([] : List Pt).map Pt.cells) 0 (by rw [hdl]; simp [Act.eval,Act.put]) (fun _ => rfl) HDROP.out (by rw [hdl]; omega) ?_ ?_ (by rw [hdl]; unfold maxLen; omega) (by rw [hdl]; omega) HB13.out.size ?_
         ·intro y hy
          obtain ⟨q,-,rfl⟩:=List.mem_map.1 hy
          rfl
         ·intro y hy u hu
          obtain ⟨q,-,rfl⟩:=List.mem_map.1 hy
          simp only [Pt.cells,List.mem_cons,List.not_mem_nil,or_false] at hu
          rcases hu with rfl | rfl | rfl | rfl <;> rfl
         intro v' w14 hown hgrow
         rw [hdl] at hown
         obtain ⟨A14,c14,rfl,-⟩:=row_slice hown
         have hb14 : Below w12.heap.size w12 w14:=HB13.out.grown hgrow HB13.out.size (fun j hj => by simp [Value.ownBlock] at hj; omega)
         have HB14:=Lib.hid hb14
         have hown' : w14.ownsRow w12.heap.size 28 4 (.slice A14 ((Pt.mk f.form.dof f.form.name f.form.num A9 c9 ([] : List Pt)) :: ([] : List Pt)).length c14) ((Pt.mk f.form.dof f.form.name f.form.num A9 c9 ([] : List Pt)) :: ([] : List Pt)).length ((((Pt.mk f.form.dof f.form.name f.form.num A9 c9 ([] : List Pt)) :: ([] : List Pt)).map Pt.cells).flatten):=by
          have e : ((Pt.mk f.form.dof f.form.name f.form.num A9 c9 ([] : List Pt)) :: ([] : List Pt)).length = 1 + 0:=rfl
          rw [e]
          have e2 : [.string f.form.dof,.string f.form.name,.int .i64 f.form.num,.slice A9 0 c9] = Pt.cells (Pt.mk f.form.dof f.form.name f.form.num A9 c9 ([] : List Pt)):=by
           unfold Pt.cells
           simp only [Pt.dof,Pt.name,Pt.num,Pt.at_,Pt.cap,Pt.args,HTKL.out]
          rw [e2] at hown
          exact hown
         have HO14:=Lib.hid hown'
         clear hown hgrow hown' hb14
         refine hK _ _ (fun _ => HBXH.out _ (HBD11.out.trans (HB14.out.mono HBD11.out.size))) ?_
         clear hK K9
         iterate 2
          refine wpMix_step rfl (fun K9 hK => ?_)
          go_simp
          refine hK _ _ (fun _ => HBXH.out _ (HBD11.out.trans (HB14.out.mono HBD11.out.size))) ?_
          clear hK K9
         refine wpMix_nil ?_
         refine NoPanic.normal ?_
         have hb814 : Below w8.heap.size w8 w14:=HB812.out.trans (HB14.out.mono HB812.out.size)
         have hb1114 : Below w11.heap.size w11 w14:=HBD11.out.trans (HB14.out.mono HBD11.out.size)
         have hs14 : Sm K w8 w14:=(H.out.env.sk.sm HSW8.out).same hb814
         have hrow9 : RowAt w14.heap.size w14 4 A9 (([] : List Pt).map Pt.cells):=by
          have h9:=HOWN11.out
          have h10 : w11.ownsRow w9.heap.size 28 4 (.slice A9 ([] : List Pt).length c9) ([] : List Pt).length ((([] : List Pt).map Pt.cells).flatten):=by
           rw [HTKL.out] at h9 ⊢
           exact h9
          exact RowAt.wider (RowAt.keep (PatsO.row h10) hb1114) hb1114.size
         have hcap9:=own_cap HOWN11.out
         have hfs:=HFSZ.out
         have hhead : (Pt.mk f.form.dof f.form.name f.form.num A9 c9 ([] : List Pt)).In w14.heap.size w14:=Pt.In_mk.2 ⟨hfs.1,hfs.2.1,hfs.2.2,by rw [HTKL.out]; omega,⟨by rw [HTKL.out]; have:=hcap9.1; first | exact this | (rw [HTKL.out] at this; exact this),hcap9.2.1⟩,hrow9,fun q hq => (by cases hq)⟩
         have HIN14:=Lib.hid (PatsO.in_ HO14.out (fun q hq => by
          rcases List.mem_cons.1 hq with rfl | hq
          ·exact hhead
          ·cases hq))
         have HNO14:=Lib.hid (own_cap HO14.out).2.1
         have HS14:=Lib.hid (HSW8.out.trans hs14)
         have HBACK:=Lib.hid (fun h => HVAL8.out (hs14.back h))
         have HLL:=Lib.hid (show ((Pt.mk f.form.dof f.form.name f.form.num A9 c9 ([] : List Pt)) :: ([] : List Pt)).length = (t :: ts).length by
          have h9:=HLEN8.out
          rw [List.length_append] at h9
          simp only [List.length_cons,List.length_nil] at h9 ⊢
          omega)
         have e14 : 1 + 0 = ((Pt.mk f.form.dof f.form.name f.form.num A9 c9 ([] : List Pt)) :: ([] : List Pt)).length:=rfl
         have HFND:=Lib.hid (show Open_ K w14 → Vals l (t :: ts) [Pt.mk f.form.dof f.form.name f.form.num A9 c9 []] ∧ matchAll (p :: ps) [Pt.mk f.form.dof f.form.name f.form.num A9 c9 []] = true ∧ ∀ r ∈ patsL rs,matchAll r [Pt.mk f.form.dof f.form.name f.form.num A9 c9 []] = false from fun h => by
          have h7:=HBACK.out h
          have h8:=form_found (rows:=patsL rs) HF1.out H.out.wok.ok (fun r hr => (by
           obtain ⟨x,hx,rfl⟩:=List.mem_map.1 hr
           exact (H.out.rok x hx).ok)) HON.out h7.1 h7.2.1 h7.2.2 A9 c9
          rw [List.take_nil,List.drop_nil] at h8
          exact h8)
         clear hb814 hb1114 hs14 hrow9 hcap9 hfs hhead hdl
         try rw [e14]
         clear e14
         generalize hvo : ((Pt.mk f.form.dof f.form.name f.form.num A9 c9 ([] : List Pt)) :: ([] : List Pt)) = vo at HIN14 HNO14 HLL HFND ⊢
         have HVO:=Lib.hid hvo
         clear hvo
         go_wp2_with fail
         have hvl : 1 = vo.length:=by rw [← HVO.out]; rfl
         exact bodyPost_ret (v:=.tuple #[.slice A14 vo.length c14,.bool true]) (by simp [results,Tryz.results44,go_sem]; exact hvl) rfl ⟨HS14.out,.inr ⟨HUSE.out,A14,c14,vo,rfl,HIN14.out,HNO14.out,fun h => (by rw [← HVO.out] at h; cases h),HLL.out,HFND.out⟩⟩
        ·have hone : out ≠ []:=fun h => by have:=hem8 h; cases this
         obtain ⟨b8,o8,hat8,hb8,-⟩:=hin8.1 (by rw [List.length_map]; exact List.length_pos_iff.2 hone)
         simp only [Option.some.injEq] at hat8
         subst hat8
         clear hin8 hno8 hem8
         have HCLF:=Lib.hid (fun (W : World) (hb : Below w8.heap.size w8 W) => (show Calls Tryz.prog 92 #[.slice (some ⟨b8,o8,none⟩) f.form.types.length c8] W (ClonePost (out.take f.form.types.length) W) by
          have h9:=clone_any (some ⟨b8,o8,none⟩) (out.take f.form.types.length) c8 W ⟨by
           rw [List.map_take]
           exact ((HIN8.out.1.take _).keep hb).wider hb.size,fun q hq => Pt.In.next (HIN8.out.2.1 q (List.mem_of_mem_take hq)) hb,by simp only [HTKL.out]; exact hkc,HIN8.out.2.2.2⟩ HNO8.out (by rw [HTKL.out]; omega)
          rw [HTKL.out] at h9
          exact h9))
         go_wp2_with fail
         have HBH:=Lib.hid ((Below.refl w8.heap.size w8).alloc (Nat.le_refl _) (.cells #[.string f.form.dof,.string f.form.name,.int .i64 f.form.num,.slice none 0 0] 28))
         have HKH:=Lib.hid (Blk.new w8 #[.string f.form.dof,.string f.form.name,.int .i64 f.form.num,.slice none 0 0] 28)
         generalize w8.alloc (.cells #[.string f.form.dof,.string f.form.name,.int .i64 f.form.num,.slice none 0 0] 28) = w9 at HBH HKH ⊢
         refine Calls.mono (HCLF.out _ HBH.out) ?_
         rintro e w10 ⟨hb10,A9,c9,rfl,hin9,hno9,hown9⟩
         have HB10:=Lib.hid (HBH.out.trans (hb10.mono HBH.out.size))
         have HKH10:=Lib.hid (HKH.out.below hb10 HKH.out.lt)
         have HOWN9:=Lib.hid hown9
         have hkh9:=HKH.out.lt
         rw [HTKL.out]
         clear hb10 hin9 hno9 hown9 x0 x1 x2 x3 x4 xl
         have hl10:=HKH10.out.lt
         obtain ⟨v0,v1,v2,v3⟩:=HKH10.out.four
         have d3:=HKH10.out.free 3
         go_wp2_with fail
         have HKH11:=Lib.hid (show Blk (w10.setCell ⟨w8.heap.size,3,none⟩ (.slice A9 f.form.types.length c9)) w8.heap.size #[.string f.form.dof,.string f.form.name,.int .i64 f.form.num,.slice A9 f.form.types.length c9] 28 from (HKH10.out.set 3 (.slice A9 f.form.types.length c9)).cast rfl)
         have HB11:=Lib.hid (HB10.out.setCell (p:=⟨w8.heap.size,3,none⟩) (Nat.le_refl _) (.slice A9 f.form.types.length c9))
         have HOWN11:=Lib.hid (row_stays (w1:=w10.setCell ⟨w8.heap.size,3,none⟩ (.slice A9 f.form.types.length c9)) HOWN9.out fun i hi => Below.heap_setCell _ _ _ _ (show i ≠ w8.heap.size by have:=(HOWN9.out.lt i hi).1; omega))
         clear v0 v1 v2 v3 d3 hl10
         generalize w10.setCell ⟨w8.heap.size,3,none⟩ (.slice A9 f.form.types.length c9) = w11 at HKH11 HB11 HOWN11 ⊢
         have HS11:=Lib.hid (HSW8.out.then HB11.out)
         have HBXH:=Lib.hid (fun (W : World) (hW : Below w11.heap.size w11 W) => (show SH w8.heap.size f A9 c9 W by
          have k1:=HKH11.out.below hW HKH11.out.lt
          exact ⟨k1.cell 0,k1.cell 1,k1.cell 2,k1.cell 3,k1.lt⟩))
         refine region_mix (SH w8.heap.size f A9 c9) [(0,true),(2,true),(3,true),(4,true),(1,false),(5,false),(6,false),(7,false)] 7 (by kernel_rfl) (by kernel_rfl) (HBXH.out _ (Below.refl _ _).drew) ?_
         simp only [pickM,List.filterMap_cons,List.getElem?_cons_zero,List.getElem?_cons_succ,List.filterMap_nil,Option.map_some]
         have HBD11:=Lib.hid (Below.refl w11.heap.size w11).drew
         generalize w11.drew = w12 at HBD11 ⊢
         iterate 3
          refine wpMix_read ?_ (by rfl) (fun W hW => ?_) ?_
          rotate_left
          ·unfold SH at hW
           go_simp
           try with_reducible rfl
          simp only [Act.put,List.setIfInBounds_toArray,List.set_cons_zero,List.set_cons_succ]
         refine wpMix_read (.slice (dropAd (some ⟨b8,o8,none⟩) f.form.types.length c8) (out.length - f.form.types.length) (c8 - f.form.types.length)) (by rfl) (fun W hW => ?_) ?_
         ·unfold dropAd
          simp only
          by_cases hc1 : c8 = f.form.types.length
          ·rw [if_pos hc1]
           go_simp
           all_goals (try (intros; omega))
          ·rw [if_neg hc1]
           go_simp
           all_goals (try (intros; omega))
         simp only [Act.put,List.setIfInBounds_toArray,List.set_cons_zero,List.set_cons_succ]
         have HB13:=Lib.hid ((Below.refl w12.heap.size w12).alloc (Nat.le_refl _) (.cells #[.string f.form.dof,.string f.form.name,.int .i64 f.form.num,.slice A9 f.form.types.length c9] 28))
         refine wpMix_step rfl (fun K9 hK => ?_)
         go_simp
         refine hK _ _ (fun _ => HBXH.out _ (HBD11.out.trans (HB13.out.mono HBD11.out.size))) ?_
         clear hK K9
         have HROW:=Lib.hid (show (w12.alloc (.cells #[.string f.form.dof,.string f.form.name,.int .i64 f.form.num,.slice A9 f.form.types.length c9] 28)).ownsRow w12.heap.size 28 4 (.slice (some ⟨w12.heap.size,0,none⟩) 1 1) 1 [.string f.form.dof,.string f.form.name,.int .i64 f.form.num,.slice A9 f.form.types.length c9] from ⟨rfl,.inr ⟨_,1,_,rfl,Nat.le_refl _,heap_alloc_new w12 _,Nat.le_refl _,by decide,rfl,rfl⟩⟩)
         have HB812:=Lib.hid (HB11.out.trans (HBD11.out.mono HB11.out.size))
         have HB813:=Lib.hid (HB812.out.trans (HB13.out.mono HB812.out.size))
         have HDROP:=Lib.hid (RowAt.keep (drop_in HIN8.out HEM8.out hko) HB813.out)
         generalize w12.alloc (.cells #[.string f.form.dof,.string f.form.name,.int .i64 f.form.num,.slice A9 f.form.types.length c9] 28) = w13 at HB13 HROW HB813 HDROP ⊢
         have hdl : ((out.drop f.form.types.length).map Pt.cells).length = out.length - f.form.types.length:=by rw [List.length_map,List.length_drop]
         refine wpMix_step rfl (fun K9 hK => ?_)
         refine wp_append_rowat (.tmp 149) (.tmp 152) 26 rfl w12.heap.size 28 i0 _ 4 64 Tryz.underlying26 hi hz0 hz1 hz2 rfl (by decide) (.slice (some ⟨w12.heap.size,0,none⟩) 1 1) 1 _ (by simp [Act.eval,Act.put]) HROW.out w8.heap.size (dropAd (some ⟨b8,o8,none⟩) f.form.types.length c8) ((out.drop f.form.types.length).map Pt.cells) (c8 - f.form.types.length) (by rw [hdl]; simp [Act.eval,Act.put]) (fun h => by unfold dropAd at h; simp only at h; split at h <;> cases h) HDROP.out (by rw [hdl]; omega) ?_ ?_ (by rw [hdl]; unfold maxLen; omega) (by rw [hdl]; omega) HB13.out.size ?_
         ·intro y hy
          obtain ⟨q,-,rfl⟩:=List.mem_map.1 hy
          rfl
         ·intro y hy u hu
          obtain ⟨q,-,rfl⟩:=List.mem_map.1 hy
          simp only [Pt.cells,List.mem_cons,List.not_mem_nil,or_false] at hu
          rcases hu with rfl | rfl | rfl | rfl <;> rfl
         intro v' w14 hown hgrow
         rw [hdl] at hown
         obtain ⟨A14,c14,rfl,-⟩:=row_slice hown
         have hb14 : Below w12.heap.size w12 w14:=HB13.out.grown hgrow HB13.out.size (fun j hj => by simp [Value.ownBlock] at hj; omega)
         have HB14:=Lib.hid hb14
         have hown' : w14.ownsRow w12.heap.size 28 4 (.slice A14 ((Pt.mk f.form.dof f.form.name f.form.num A9 c9 (out.take f.form.types.length)) :: out.drop f.form.types.length).length c14) ((Pt.mk f.form.dof f.form.name f.form.num A9 c9 (out.take f.form.types.length)) :: out.drop f.form.types.length).length ((((Pt.mk f.form.dof f.form.name f.form.num A9 c9 (out.take f.form.types.length)) :: out.drop f.form.types.length).map Pt.cells).flatten):=by
          have e : ((Pt.mk f.form.dof f.form.name f.form.num A9 c9 (out.take f.form.types.length)) :: out.drop f.form.types.length).length = 1 + (out.length - f.form.types.length):=by rw [List.length_cons,List.length_drop]; omega
          rw [e]
          have e2 : [.string f.form.dof,.string f.form.name,.int .i64 f.form.num,.slice A9 f.form.types.length c9] = Pt.cells (Pt.mk f.form.dof f.form.name f.form.num A9 c9 (out.take f.form.types.length)):=by
           unfold Pt.cells
           simp only [Pt.dof,Pt.name,Pt.num,Pt.at_,Pt.cap,Pt.args,HTKL.out]
          rw [e2] at hown
          exact hown
         have HO14:=Lib.hid hown'
         clear hown hgrow hown' hb14
         refine hK _ _ (fun _ => HBXH.out _ (HBD11.out.trans (HB14.out.mono HBD11.out.size))) ?_
         clear hK K9
         iterate 2
          refine wpMix_step rfl (fun K9 hK => ?_)
          go_simp
          refine hK _ _ (fun _ => HBXH.out _ (HBD11.out.trans (HB14.out.mono HBD11.out.size))) ?_
          clear hK K9
         refine wpMix_nil ?_
         refine NoPanic.normal ?_
         have hb814 : Below w8.heap.size w8 w14:=HB812.out.trans (HB14.out.mono HB812.out.size)
         have hb1114 : Below w11.heap.size w11 w14:=HBD11.out.trans (HB14.out.mono HBD11.out.size)
         have hs14 : Sm K w8 w14:=(H.out.env.sk.sm HSW8.out).same hb814
         have hrow9 : RowAt w14.heap.size w14 4 A9 ((out.take f.form.types.length).map Pt.cells):=by
          have h9:=HOWN11.out
          have e9 : f.form.types.length = (out.take f.form.types.length).length:=HTKL.out.symm
          have h10 : w11.ownsRow w9.heap.size 28 4 (.slice A9 (out.take f.form.types.length).length c9) (out.take f.form.types.length).length (((out.take f.form.types.length).map Pt.cells).flatten):=by
           rw [HTKL.out] at h9 ⊢
           exact h9
          exact RowAt.wider (RowAt.keep (PatsO.row h10) hb1114) hb1114.size
         have hcap9:=own_cap HOWN11.out
         have hfs:=HFSZ.out
         have hhead : (Pt.mk f.form.dof f.form.name f.form.num A9 c9 (out.take f.form.types.length)).In w14.heap.size w14:=Pt.In_mk.2 ⟨hfs.1,hfs.2.1,hfs.2.2,by rw [HTKL.out]; omega,⟨by rw [HTKL.out]; have:=hcap9.1; first | exact this | (rw [HTKL.out] at this; exact this),hcap9.2.1⟩,hrow9,fun q hq => Pt.In.next (HIN8.out.2.1 q (List.mem_of_mem_take hq)) hb814⟩
         have HIN14:=Lib.hid (PatsO.in_ HO14.out (fun q hq => by
          rcases List.mem_cons.1 hq with rfl | hq
          ·exact hhead
          ·exact Pt.In.next (HIN8.out.2.1 q (List.mem_of_mem_drop hq)) hb814))
         have HNO14:=Lib.hid (own_cap HO14.out).2.1
         have HS14:=Lib.hid (HSW8.out.trans hs14)
         have HBACK:=Lib.hid (fun h => HVAL8.out (hs14.back h))
         have HLL:=Lib.hid (show ((Pt.mk f.form.dof f.form.name f.form.num A9 c9 (out.take f.form.types.length)) :: out.drop f.form.types.length).length = (t :: ts).length by
          rw [List.length_cons,List.length_drop,HLEN8.out,List.length_append,List.length_cons]
          omega)
         have e14 : 1 + (out.length - f.form.types.length) = ((Pt.mk f.form.dof f.form.name f.form.num A9 c9 (out.take f.form.types.length)) :: out.drop f.form.types.length).length:=by rw [List.length_cons,List.length_drop]; omega
         have HFND:=Lib.hid (fun h => form_found (rows:=patsL rs) HF1.out H.out.wok.ok (fun r hr => by
          obtain ⟨x,hx,rfl⟩:=List.mem_map.1 hr
          exact (H.out.rok x hx).ok) HON.out (HBACK.out h).1 (HBACK.out h).2.1 (HBACK.out h).2.2 A9 c9)
         clear hb814 hb1114 hs14 hrow9 hcap9 hfs hhead hdl
         try rw [e14]
         clear e14
         generalize hvo : ((Pt.mk f.form.dof f.form.name f.form.num A9 c9 (out.take f.form.types.length)) :: out.drop f.form.types.length) = vo at HIN14 HNO14 HLL HFND ⊢
         have HVO:=Lib.hid hvo
         clear hvo
         go_wp2_with fail
         exact bodyPost_ret (v:=.tuple #[.slice A14 vo.length c14,.bool true]) (by simp [results,Tryz.results44,go_sem]) rfl ⟨HS14.out,.inr ⟨HUSE.out,A14,c14,vo,rfl,HIN14.out,HNO14.out,fun h => (by rw [← HVO.out] at h; cases h),HLL.out,HFND.out⟩⟩
   ·have hk2 : k = fms.length:=by omega
    subst hk2
    have HNO:=Lib.hid (show ¬Useful l (t :: ts) (patsL rs) (p :: ps) from fun hu => by
     obtain ⟨f,hf,nx,h1,h2⟩:=HUF.out.1 hu
     obtain ⟨g,hg,rfl⟩:=List.mem_map.1 hf
     exact HNF.out g (by rw [List.take_length]; exact hg) ⟨nx,h1,h2⟩)
    go_wp2_with fail
    exact bodyPost_ret (v:=.tuple #[.slice none 0 0,.bool false]) (by simp [results,Tryz.results44,go_sem]) rfl ⟨(H.out.env.sk.same HB3.out).trans HS.out,.inl ⟨rfl,HNO.out⟩⟩
end Go.Proofs.YtjeggkfgdhepaaaGreatDoor

namespace Go.Proofs.YtjeggkfgdhepaaaGreatDoor
open Go.RowKit
open Go.Proofs
open Go.Maps
theorem seek_to (K : Sk) (l : List Dt) (L : List (ByteArray × Value)) (hr : Right2 l L) : ∀ n,n ≤ 100000 → SeekTo K l L n:=by
 intro n
 induction n with
 | zero =>
  intro _ tys A rows c row w h hn
  obtain ⟨At,ct,ts⟩:=tys
  cases ts with
  | nil => exact seek_empty K l L At ct A rows c row w h
  | cons t ts => unfold sizeL at hn; simp only [List.length_cons] at hn; omega
 | succ n ih =>
  intro hle tys A rows c row w h hn
  obtain ⟨At,ct,ts⟩:=tys
  cases ts with
  | nil => exact seek_empty K l L At ct A rows c row w h
  | cons t ts =>
   obtain ⟨Ar,cr,ps⟩:=row
   cases ps with
   | nil => have:=h.wok.ok.length; simp at this
   | cons p ps =>
    obtain ⟨bt,ot,rfl,-⟩:=Rt.In.some h.tin
    obtain ⟨b1,o1,rfl,-⟩:=Rw.In.some h.win
    cases hw : (headsTo rows rows.length ++ [p]).all (fun q => wildD q.dof) with
    | true => exact seek_wild K l L hr n (ih (by omega)) bt ot ct t ts A rows c b1 o1 cr p ps w h hn (by omega) hw
    | false => exact seek_forms K l L hr n (ih (by omega)) bt ot ct t ts A rows c b1 o1 cr p ps w h hn (by omega) hw
theorem seek_any (K : Sk) (l : List Dt) (L : List (ByteArray × Value)) (hr : Right2 l L) (tys : Rt) (A : Option Addr) (rows : List Rw) (c : Nat) (row : Rw) (w : World) (h : SeekIn K l L tys A rows row w) (hn : sizeL tys.tys (patsL rows) row.pats ≤ 100000) :
  Calls Tryz.prog 44 #[K.val,tys.val,.slice A rows.length c,row.val] w (SeekPost K l tys.tys (patsL rows) row.pats w):=
 seek_to K l L hr 100000 (Nat.le_refl _) tys A rows c row w h hn
end Go.Proofs.YtjeggkfgdhepaaaGreatDoor

namespace Go.Proofs.YtjeggkfgdhepaaaGreatDoor
open Go.RowKit
open Go.Proofs
open Go.Maps
def Sunk (N N' : Nums) : Prop:=∀ s m,N s = some m → ∃ m',N' s = some m' ∧ m' ≤ m
theorem nodes_sunk {N N' : Nums} (h : Sunk N N') (t : Ty) : (nodesN N t).2 = true → (nodesN N' t).2 = true ∧ (nodesN N' t).1 ≤ (nodesN N t).1:=by
 refine Ty.induct (p:=fun t => (nodesN N t).2 = true → (nodesN N' t).2 = true ∧ (nodesN N' t).1 ≤ (nodesN N t).1) (fun d n a c ts ih => ?_) t
 rw [nodesN_mk,nodesN_mk]
 cases hp : isDo [112,97,105,114] d with
 | true =>
  simp only [if_true]
  match ts,ih with
  | [],_ => intro _; exact ⟨rfl,Int.le_refl _⟩
  | [x],_ => intro _; exact ⟨rfl,Int.le_refl _⟩
  | [x,y],ih =>
   have h1:=ih x (by simp)
   have h2:=ih y (by simp)
   simp only [List.map_cons,List.map_nil,Bool.and_eq_true]
   rintro ⟨k1,k2⟩
   obtain ⟨a1,a2⟩:=h1 k1
   obtain ⟨b1,b2⟩:=h2 k2
   exact ⟨⟨a1,b1⟩,by omega⟩
  | x :: y :: z :: r,_ => intro _; exact ⟨rfl,Int.le_refl _⟩
 | false =>
  simp only [Bool.false_eq_true,if_false]
  cases hd : isDo [100,97,116,97] d with
  | true =>
   simp only [if_true]
   cases hn : N n with
   | none => intro h; cases h
   | some m =>
    obtain ⟨m',h1,h2⟩:=h n m hn
    rw [h1]
    intro _
    exact ⟨rfl,h2⟩
  | false => intro _; exact ⟨rfl,Int.le_refl _⟩
theorem con_sunk {N N' : Nums} (h : Sunk N N') (c : Cn) : (conN N c).2 = true → (conN N' c).2 = true ∧ (conN N' c).1 ≤ (conN N c).1:=by
 unfold conN
 cases c.has with
 | false => intro _; exact ⟨rfl,Int.le_refl _⟩
 | true =>
  simp only [if_true]
  intro hh
  obtain ⟨h1,h2⟩:=nodes_sunk h c.ty hh
  exact ⟨h1,by omega⟩
theorem con_range {N : Nums} (hN : NumsOk N) (c : Cn) : 1 ≤ (conN N c).1 ∧ (conN N c).1 ≤ 2001:=by
 have:=nodesN_range hN c.ty
 unfold conN
 cases c.has with
 | false => simp
 | true => simp only [if_true]; omega
theorem numL_same (L : List (ByteArray × Value)) (s : ByteArray) (m : Int) : numL ((s,.int .i64 m) :: L) s = some m:=by
 unfold numL
 rw [lookL_same]
theorem numL_other (L : List (ByteArray × Value)) (s s' : ByteArray) (v : Value) (h : s ≠ s') : numL ((s,v) :: L) s' = numL L s':=by
 unfold numL
 rw [lookL_other _ _ h]
def Less (N : Nums) (s : ByteArray) (m : Int) : Prop:=N s = none ∨ ∃ was,N s = some was ∧ m < was
theorem sunk_put {L : List (ByteArray × Value)} {s : ByteArray} {m : Int} (h : Less (numL L) s m) : Sunk (numL L) (numL ((s,.int .i64 m) :: L)):=by
 intro s' k hk
 by_cases e : s = s'
 ·subst e
  rcases h with h | ⟨was,h,hlt⟩
  ·rw [h] at hk; cases hk
  ·rw [h] at hk
   simp only [Option.some.injEq] at hk
   subst hk
   exact ⟨m,numL_same _ _ _,by omega⟩
 ·exact ⟨k,(numL_other _ _ _ _ e).trans hk,Int.le_refl _⟩
def potOf (N : Nums) (s : ByteArray) : Nat:=match N s with | some m => m.toNat | none => 2002
def pot (l : List Dt) (N : Nums) : Nat:=(l.map fun d => potOf N d.name).sum
theorem sum_le {α : Type} (f g : α → Nat) : ∀ l : List α,(∀ a ∈ l,f a ≤ g a) → (l.map f).sum ≤ (l.map g).sum
 | [],_ => Nat.le_refl _
 | a :: l,h => by
  have h1:=h a (by simp)
  have h2:=sum_le f g l (fun x hx => h x (by simp [hx]))
  simp only [List.map_cons,List.sum_cons]
  omega
theorem sum_lt {α : Type} (f g : α → Nat) : ∀ l : List α,(∀ a ∈ l,f a ≤ g a) → (∃ a ∈ l,f a + 1 ≤ g a) → (l.map f).sum + 1 ≤ (l.map g).sum
 | [],_,⟨_,h,_⟩ => by cases h
 | a :: l,h,⟨x,hx,hlt⟩ => by
  have h1:=h a (by simp)
  have h2:=sum_le f g l (fun x hx => h x (by simp [hx]))
  simp only [List.map_cons,List.sum_cons]
  rcases List.mem_cons.1 hx with rfl | hx
  ·omega
  ·have:=sum_lt f g l (fun x hx => h x (by simp [hx])) ⟨x,hx,hlt⟩
   omega
theorem pot_put {l : List Dt} {L : List (ByteArray × Value)} (hL : NumsOk (numL L)) {d : Dt} (hd : d ∈ l) {m : Int} (hm : 1 ≤ m ∧ m ≤ 2001) (h : Less (numL L) d.name m) : pot l (numL ((d.name,.int .i64 m) :: L)) + 1 ≤ pot l (numL L):=by
 unfold pot
 refine sum_lt _ _ l (fun e _ => ?_) ⟨d,hd, ?_⟩
 ·by_cases he : d.name = e.name
  ·rw [← he]
   unfold potOf
   rw [numL_same]
   rcases h with h | ⟨was,h,hlt⟩
   ·rw [h]; simp only; omega
   ·rw [h]; simp only; omega
  ·unfold potOf
   rw [numL_other _ _ _ _ he]
   exact Nat.le_refl _
 ·unfold potOf
  rw [numL_same]
  rcases h with h | ⟨was,h,hlt⟩
  ·rw [h]; simp only; omega
  ·rw [h]
   have:=hL _ _ h
   simp only
   omega
theorem pot_max {l : List Dt} {N : Nums} (hN : NumsOk N) : pot l N ≤ 2002 * l.length:=by
 unfold pot
 have : (l.map fun d => potOf N d.name).sum ≤ (l.map fun _ => 2002).sum:=sum_le _ _ l fun d _ => by
  unfold potOf
  cases h : N d.name with
  | none => exact Nat.le_refl _
  | some m => have:=hN _ _ h; simp only; omega
 rw [List.map_const',List.sum_replicate_nat] at this
 rw [Nat.mul_comm]
 exact this
structure Numb (l : List Dt) (N : Nums) : Prop where
 real : ∀ d ∈ l,(N d.name).isSome = true → ∃ c ∈ d.cons,c.has = false ∨ ∃ v,Val l c.ty v
 met : ∀ d ∈ l,∀ m,N d.name = some m → ∃ c ∈ d.cons,(conN N c).2 = true ∧ (conN N c).1 ≤ m
theorem same_name {l : List Dt} (hr : Right l) {d e : Dt} (hd : d ∈ l) (he : e ∈ l) (h : d.name = e.name) : d = e:=by
 have h1:=find_name hr.names hd
 have h2:=find_name hr.names he
 rw [h] at h1
 rw [h1] at h2
 exact Option.some.inj h2
theorem numb_nil (l : List Dt) : Numb l (numL []):=by
 have h : ∀ s,numL [] s = none:=fun s => by unfold numL; rw [lookL_nil]
 exact ⟨fun d _ hs => (by rw [h] at hs; cases hs),fun d _ m hm => (by rw [h] at hm; cases hm)⟩
theorem con_val {l : List Dt} (hr : Right l) {N : Nums} (hS : ∀ d ∈ l,hasN N d.name = true → ∃ c ∈ d.cons,c.has = false ∨ ∃ v,Val l c.ty v) {d : Dt} (hd : d ∈ l) {c : Cn} (hc : c ∈ d.cons) (h : (conN N c).2 = true) : c.has = false ∨ ∃ v,Val l c.ty v:=by
 cases hh : c.has with
 | false => exact .inl rfl
 | true =>
  refine .inr ?_
  have hok:=((hr.cons d hd).2 c hc).2 hh
  unfold conN at h
  rw [hh] at h
  simp only [if_true] at h
  rw [nodesN_has N c.ty hok] at h
  exact hasV_real hr hS c.ty hok h
theorem numb_put {l : List Dt} (hr : Right l) {L : List (ByteArray × Value)} (h : Numb l (numL L)) {d : Dt} (hd : d ∈ l) {c : Cn} (hc : c ∈ d.cons) (hok : (conN (numL L) c).2 = true) (hless : Less (numL L) d.name (conN (numL L) c).1) :
  Numb l (numL ((d.name,.int .i64 (conN (numL L) c).1) :: L)):=by
 have hs:=sunk_put hless
 refine ⟨fun e he hsome => ?_,fun e he m hm => ?_⟩
 ·by_cases hn : d.name = e.name
  ·have:=same_name hr hd he hn
   subst this
   exact ⟨c,hc,con_val hr h.real hd hc hok⟩
  ·rw [numL_other _ _ _ _ hn] at hsome
   exact h.real e he hsome
 ·by_cases hn : d.name = e.name
  ·have:=same_name hr hd he hn
   subst this
   rw [numL_same] at hm
   simp only [Option.some.injEq] at hm
   subst hm
   obtain ⟨h1,h2⟩:=con_sunk hs c hok
   exact ⟨c,hc,h1,h2⟩
  ·rw [numL_other _ _ _ _ hn] at hm
   obtain ⟨c',hc',k1,k2⟩:=h.met e he m hm
   obtain ⟨h1,h2⟩:=con_sunk hs c' k1
   exact ⟨c',hc',h1,by omega⟩
def QuietC (N : Nums) (n : ByteArray) (c : Cn) : Prop:=(conN N c).2 = true → ∃ m,N n = some m ∧ m ≤ (conN N c).1
theorem right_two {l : List Dt} (hr : Right l) {L : List (ByteArray × Value)} (h : Numb l (numL L)) (hq : ∀ d ∈ l,∀ c ∈ d.cons,QuietC (numL L) d.name c) : Right2 l L:=by
 refine ⟨hr,fun d hd m hm => ?_,h.real,fun d hd c hc hh => ?_⟩
 ·obtain ⟨c,hc,h1,h2⟩:=h.met d hd m hm
  obtain ⟨m',h3,h4⟩:=hq d hd c hc h1
  rw [hm] at h3
  simp only [Option.some.injEq] at h3
  subst h3
  refine ⟨c,hc, ?_⟩
  have : (conN (numL L) c).1 = m:=by omega
  rw [← this,← h1]
 ·have h1 : (conN (numL L) c).2 = true:=by
   unfold conHas at hh
   unfold conN
   cases hb : c.has with
   | false => rfl
   | true =>
    rw [hb] at hh
    simp only [Bool.not_true,Bool.false_or] at hh
    simp only [if_true]
    rw [nodesN_has _ c.ty (((hr.cons d hd).2 c hc).2 hb)]
    exact hh
  obtain ⟨m,h2,-⟩:=hq d hd c hc h1
  unfold hasN
  rw [h2]
  rfl
end Go.Proofs.YtjeggkfgdhepaaaGreatDoor

namespace Go.Proofs.YtjeggkfgdhepaaaGreatDoor
open Go.RowKit
open Go.Proofs
open Go.Maps
theorem fold_count : ∀ (l : List Pt) (s : Sz) (n : Nat),s.nodes = (n : Int) → n + (l.map Pt.count).sum ≤ 1048576 → (∀ p ∈ l,p.count ≤ 1048576 → p.size.nodes = (p.count : Int)) →
  (l.foldl (fun s t => s.above t.size) s).nodes = ((n + (l.map Pt.count).sum : Nat) : Int)
 | [],s,n,h,_,_ => by simpa using h
 | p :: l,s,n,h,hb,hp => by
  simp only [List.map_cons,List.sum_cons] at hb
  have h1:=hp p (by simp) (by omega)
  have h2:=fold_count l (s.above p.size) (n + p.count) (by
   unfold Sz.above
   simp only
   rw [h,h1]
   unfold wrap64
   omega) (by omega) (fun q hq => hp q (by simp [hq]))
  rw [List.foldl_cons,h2,List.map_cons,List.sum_cons,Nat.add_assoc]
theorem size_count (p : Pt) : p.count ≤ 1048576 → p.size.nodes = (p.count : Int):=by
 refine Pt.induct (p:=fun p => p.count ≤ 1048576 → p.size.nodes = (p.count : Int)) (fun d s n a c l ih h => ?_) p
 rw [Pt.count_mk] at h ⊢
 rw [Pt.size_mk]
 exact fold_count l ⟨1,1⟩ 1 rfl h ih
theorem nodes_fold : ∀ (l : List Pt) (a : Int) (n : Nat),a = (n : Int) → n + (l.map Pt.count).sum ≤ 1048576 → l.foldl (fun a p => wrap64 (a + p.size.nodes)) a = ((n + (l.map Pt.count).sum : Nat) : Int)
 | [],a,n,h,_ => by simpa using h
 | p :: l,a,n,h,hb => by
  simp only [List.map_cons,List.sum_cons] at hb
  have h2:=nodes_fold l (wrap64 (a + p.size.nodes)) (n + p.count) (by
   rw [h,size_count p (by omega)]
   unfold wrap64
   omega) (by omega)
  rw [List.foldl_cons,h2,List.map_cons,List.sum_cons,Nat.add_assoc]
theorem nodes_count {ps : List Pt} (h : (ps.map Pt.count).sum ≤ 1048576) : nodesTo ps ps.length = ((ps.map Pt.count).sum : Nat):=by
 unfold nodesTo
 rw [List.take_length,nodes_fold ps 0 0 rfl (by omega),Nat.zero_add]
theorem weight_count (p : Pt) : p.weight ≤ p.count:=by
 refine Pt.induct (p:=fun p => p.weight ≤ p.count) (fun d s n a c l ih => ?_) p
 rw [Pt.weight_mk,Pt.count_mk]
 have h1 : (if wildD d then 0 else 1) ≤ 1:=by split <;> omega
 have h2:=sum_le Pt.weight Pt.count l ih
 omega
theorem patB_well {p : Pt} (h : p.patB = true) : p.wellB = true:=by
 unfold Pt.patB Pt.okS at h
 simp only [Bool.and_eq_true] at h
 exact h.1.1
structure Asked (l : List Dt) (t : Ty) (ps : List Pt) : Prop where
 sound : soundB l t = true
 len : ps.length ≤ 12
 pats : ∀ p ∈ ps,p.patB = true ∧ p.isOf l t = true
 nodes : (ps.map Pt.count).sum ≤ 60
theorem asked_iff {l : List Dt} {t : Ty} {ps : List Pt} (hc : (ps.map Pt.count).sum ≤ 1048576) : askedErr l t ps = 0 ↔ Asked l t ps:=by
 unfold askedErr
 rw [nodes_count hc]
 have hsw:=sound_world l t
 constructor
 ·intro h
  split at h
  ·rename_i hk
   rw [Bool.and_eq_true,Bool.and_eq_true,Bool.and_eq_true,decide_eq_true_eq,List.all_eq_true] at hk
   obtain ⟨k1,k2,k3,k4⟩:=hk
   have hs : soundB l t = true:=by rw [hsw,k2,k3]; rfl
   refine ⟨hs,k4,fun p hp => ?_, ?_⟩
   ·have:=k1 p hp
    unfold fitB askB at this
    simp only [Bool.and_eq_true] at this
    refine ⟨this.1.2.2, ?_⟩
    rw [isOf_fit (sound_tys hs).2.2.1 (sound_tys hs).2.2.2 p t (patB_well this.1.2.2)]
    exact this.2
   ·split at h
    ·cases h
    ·omega
  ·cases h
 ·intro h
  have hs:=h.sound
  rw [hsw,Bool.and_eq_true] at hs
  have hk : (ps.all (fitB l t) && (worldB l && (t.there (dTo l l.length) && decide (ps.length ≤ 12)))) = true:=by
   rw [Bool.and_eq_true,Bool.and_eq_true,Bool.and_eq_true,decide_eq_true_eq,List.all_eq_true]
   refine ⟨fun p hp => ?_,hs.1,hs.2,h.len⟩
   obtain ⟨h1,h2⟩:=h.pats p hp
   unfold fitB askB
   rw [hs.1,hs.2,h1,← isOf_fit (sound_tys h.sound).2.2.1 (sound_tys h.sound).2.2.2 p t (patB_well h1),h2]
   rfl
  have:=h.nodes
  rw [if_pos hk,if_neg (by omega)]
section
variable {l : List Dt} {t : Ty} {ps : List Pt}
theorem Asked.right (h : Asked l t ps) : Right l:=(right_of h.sound).1
theorem Asked.ty (h : Asked l t ps) : okT l t:=(right_of h.sound).2
theorem Asked.pok (h : Asked l t ps) : ∀ p ∈ ps,POk l t p:=fun p hp => ⟨patB_well (h.pats p hp).1,(h.pats p hp).2⟩
def oneCol (ps : List Pt) : List (List Pt):=ps.map fun p => [p]
theorem rowsW_one (ps : List Pt) : rowsW (oneCol ps) ≤ (ps.map Pt.count).sum:=by
 unfold rowsW oneCol
 rw [List.map_map]
 refine sum_le _ _ ps fun p _ => ?_
 have:=weight_count p
 simpa [rowW,Function.comp] using this
theorem count_take {i : Nat} {p : Pt} (h : ps[i]? = some p) : ((ps.take i).map Pt.count).sum + p.count ≤ (ps.map Pt.count).sum:=by
 have e : (ps.map Pt.count).sum = ((ps.take i).map Pt.count).sum + ((ps.drop i).map Pt.count).sum:=by
  rw [← List.sum_append,← List.map_append,List.take_append_drop]
 have e2 : ps.drop i = p :: ps.drop (i + 1):=by
  obtain ⟨hi,hx⟩:=List.getElem?_eq_some_iff.1 h
  rw [List.drop_eq_getElem_cons hi,hx]
 rw [e,e2,List.map_cons,List.sum_cons]
 omega
theorem size_one (h : Asked l t ps) {i : Nat} {p : Pt} (hp : ps[i]? = some p) : sizeL [t] (oneCol (ps.take i)) [p] ≤ 100000:=by
 have h1:=rowsW_one (ps.take i)
 have h2:=weight_count p
 have h3:=count_take hp
 have h4:=h.nodes
 have h5 : rowW [p] = p.weight:=by simp [rowW]
 unfold sizeL
 simp only [List.length_cons,List.length_nil]
 omega
end
open Classical in
noncomputable def idle (l : List Dt) (t : Ty) (ps : List Pt) (i : Nat) : Bool:=decide (∃ p,ps[i]? = some p ∧ ¬Useful l [t] (oneCol (ps.take i)) [p])
open Classical in
theorem idle_iff {l : List Dt} {t : Ty} {ps : List Pt} {i : Nat} {p : Pt} (hp : ps[i]? = some p) : idle l t ps i = true ↔ ¬Useful l [t] (oneCol (ps.take i)) [p]:=by
 unfold idle
 rw [decide_eq_true_eq]
 constructor
 ·rintro ⟨q,hq,h⟩
  rw [hp] at hq
  cases hq
  exact h
 ·exact fun h => ⟨p,hp,h⟩
noncomputable def idleN (l : List Dt) (t : Ty) (ps : List Pt) (k : Nat) : List Nat:=(List.range k).filter (idle l t ps)
noncomputable def idleL (l : List Dt) (t : Ty) (ps : List Pt) (k : Nat) : List Value:=(idleN l t ps k).map fun i => .int .i64 (i : Nat)
theorem idleL_yes {l : List Dt} {t : Ty} {ps : List Pt} {k : Nat} (h : idle l t ps k = true) : idleL l t ps (k + 1) = idleL l t ps k ++ [.int .i64 (k : Nat)]:=by
 unfold idleL idleN
 rw [List.range_succ,List.filter_append,List.map_append,List.filter_cons_of_pos h]
 rfl
theorem idleL_no {l : List Dt} {t : Ty} {ps : List Pt} {k : Nat} (h : idle l t ps k = false) : idleL l t ps (k + 1) = idleL l t ps k:=by
 unfold idleL idleN
 rw [List.range_succ,List.filter_append,List.map_append,List.filter_cons_of_neg (by rw [h]; decide)]
 simp
theorem idleL_len (l : List Dt) (t : Ty) (ps : List Pt) (k : Nat) : (idleL l t ps k).length ≤ k:=by
 unfold idleL idleN
 rw [List.length_map]
 have:=List.length_filter_le (idle l t ps) (List.range k)
 rwa [List.length_range] at this
end Go.Proofs.YtjeggkfgdhepaaaGreatDoor

namespace Go.Proofs.YtjeggkfgdhepaaaGreatDoor
open Go.RowKit
open Go.Proofs
open Go.Maps
theorem Sm.own {K : Sk} {w w1 : World} {B size n : Nat} {v : Value} {xs : List Value} {e : TypeId} (h : Sm K w w1) (ho : w.ownsRow B e size v n xs) (hne : 90 ≠ e) : w1.ownsRow B e size v n xs:=by
 obtain ⟨f,f',hf,hf',hm⟩:=h.flag
 exact row_stays ho fun i hi => h.block i (ho.lt i hi).2 (fun e1 => own_ne ho hf hne (by rw [hi,e1]))
theorem MapAt.ne_row {w : World} {b m : Nat} {L : List (ByteArray × Value)} (hm : MapAt ofV w b m L) {B size n : Nat} {v : Value} {xs : List Value} {e : TypeId} (ho : w.ownsRow B e size v n xs) : v.ownBlock ≠ some b:=by
 obtain ⟨D,⟨es,clock,hh,-⟩,-⟩:=hm
 rcases ho.2 with ⟨rfl,-⟩ | ⟨g,cap,cur,rfl,-,hg,-⟩
 ·intro h; cases h
 ·intro he
  simp only [Value.ownBlock,Option.some.injEq] at he
  subst he
  rw [hh] at hg
  cases hg
theorem SkAt.grown {Z : Sk} {l : List Dt} {L : List (ByteArray × Value)} {w w1 : World} {B size n : Nat} {v : Value} {xs : List Value} (h : SkAt Z l L w) (ho : w.ownsRow B 3 size v n xs) (hg : w.grownBy w1 v.ownBlock) : SkAt Z l L w1:=by
 obtain ⟨f,hf⟩:=h.blk
 obtain ⟨m,hm⟩:=h.n
 exact ⟨⟨f,(hg.block _ hf.lt (own_ne ho hf (by decide)).symm).trans hf⟩,h.d.block (hg.block _ h.d.lt (h.d.ne_row ho).symm),⟨m,hm.block (hg.block _ hm.lt (hm.ne_row ho).symm)⟩,h.vals,h.ned,h.nen⟩
theorem rowsIn_all {B : Nat} {W : World} {l : List Pt} {k : Nat} {A9 : Option Addr} {c9 : Nat} (h : RowsO B W (.slice A9 k c9) l k) (hl : l.length = k) (hk : k ≤ 1048576) (hall : ∀ q ∈ l,q.In W.heap.size W) :
  ∃ (rs : List Rw),rs.length = k ∧ RowsIn W.heap.size W A9 rs ∧ patsL rs = oneCol l:=by
 obtain ⟨rs,A,c,hrl,he,hown,hone⟩:=h
 cases he
 have hmem : ∀ r ∈ rs,∃ q b,q ∈ l ∧ r = ⟨some ⟨b,0,none⟩,1,[q]⟩ ∧ Blk W b #[.string q.dof,.string q.name,.int .i64 q.num,.slice q.at_ q.args.length q.cap] 28:=fun r hr => by
  obtain ⟨i,hi⟩:=List.getElem?_of_mem hr
  obtain ⟨q,b,h1,h2,h3⟩:=hone i r hi
  exact ⟨q,b,List.mem_of_getElem? h1,h2,h3⟩
 refine ⟨rs,hrl,⟨by have:=row_vals hown; rwa [List.map_map] at this,fun r hr => ?_,by omega⟩, ?_⟩
 ·obtain ⟨q,b,hq,rfl,hb⟩:=hmem r hr
  exact ⟨row_pt1 hb hb.lt,fun p hp => by simp only [List.mem_cons,List.not_mem_nil,or_false] at hp; subst hp; exact hall _ hq,Nat.le_refl _,(show (1 : Nat) ≤ 9223372036854775807 by decide)⟩
 ·unfold patsL oneCol
  refine List.ext_getElem? fun i => ?_
  rw [List.getElem?_map,List.getElem?_map]
  by_cases hi : i < rs.length
  ·obtain ⟨q,b,h1,h2,-⟩:=hone i rs[i] (List.getElem?_eq_getElem hi)
   rw [List.getElem?_eq_getElem hi,h1,Option.map_some,Option.map_some,h2]
  ·rw [List.getElem?_eq_none (by omega),List.getElem?_eq_none (by omega)]
   rfl
theorem seek_col (Z : Sk) (l : List Dt) (L : List (ByteArray × Value)) (hr : Right2 l L) (t : Ty) (ht : okT l t) (htc : t.capB) (hcaps : ∀ d ∈ l,∀ c ∈ d.cons,c.ty.capB) (col : List Pt) (p : Pt) (hcol : ∀ q ∈ col,POk l t q ∧ q.capB) (hp : POk l t p ∧ p.capB)
  (k : Nat) (hk : col.length = k) (hlen : k ≤ 1000) (hsz : sizeL [t] (oneCol col) [p] ≤ 100000) (W : World) (hV : VEnv Z l L W) (htin : t.In W.heap.size W) (hin : ∀ q ∈ col,q.In W.heap.size W) (hpin : p.In W.heap.size W) (B bt bp : Nat) (A9 : Option Addr) (c9 : Nat)
  (kt : Blk W bt #[.string t.dof,.string t.name,.slice t.at_ t.args.length t.cap] 25) (kp : Blk W bp #[.string p.dof,.string p.name,.int .i64 p.num,.slice p.at_ p.args.length p.cap] 28) (ro : RowsO B W (.slice A9 k c9) col k) :
  Calls Tryz.prog 44 #[Z.val,.slice (some ⟨bt,0,none⟩) 1 1,.slice A9 k c9,.slice (some ⟨bp,0,none⟩) 1 1] W (SeekPost Z l [t] (oneCol col) [p] W):=by
 obtain ⟨rs,hrl,hri,hpats⟩:=rowsIn_all ro hk (by omega) hin
 have h:=seek_any Z l L hr ⟨some ⟨bt,0,none⟩,1,[t]⟩ A9 rs c9 ⟨some ⟨bp,0,none⟩,1,[p]⟩ W
  ⟨hV,hcaps,⟨row_ty1 kt kt.lt,fun u hu => by simp only [List.mem_cons,List.not_mem_nil,or_false] at hu; subst hu; exact htin,Nat.le_refl _,(show (1 : Nat) ≤ 9223372036854775807 by decide)⟩,fun h => (by cases h),fun u hu => by simp only [List.mem_cons,List.not_mem_nil,or_false] at hu; subst hu; exact ⟨ht,htc⟩,hri,
   fun r hr => by
    have hm : r.pats ∈ oneCol col:=by rw [← hpats]; exact List.mem_map.2 ⟨r,hr,rfl⟩
    obtain ⟨q,hq,he⟩:=List.mem_map.1 hm
    rw [← he]
    obtain ⟨h1,h2⟩:=hcol q hq
    exact ⟨.cons h1 .nil,fun x hx => by simp only [List.mem_cons,List.not_mem_nil,or_false] at hx; subst hx; exact h2⟩,by omega,
   ⟨row_pt1 kp kp.lt,fun x hx => by simp only [List.mem_cons,List.not_mem_nil,or_false] at hx; subst hx; exact hpin,Nat.le_refl _,(show (1 : Nat) ≤ 9223372036854775807 by decide)⟩,
   ⟨.cons hp.1 .nil,fun x hx => by simp only [List.mem_cons,List.not_mem_nil,or_false] at hx; subst hx; exact hp.2⟩⟩ (by rw [hpats]; exact hsz)
 rw [hpats,hrl] at h
 exact h
structure AskIn (w : World) (A : Option Addr) (l : List Dt) (t : Ty) (Ap : Option Addr) (ps : List Pt) : Prop where
 env : Env w
 dts : DtsIn w.heap.size w A l
 ty : t.In w.heap.size w
 pts : PtsIn w.heap.size w Ap ps
 caps : ∀ d ∈ l,∀ c ∈ d.cons,c.ty.capB
 tcap : t.capB
 pcap : ∀ p ∈ ps,p.capB
 dlen : ∀ d ∈ l,d.cons.length ≤ 1048576
 count : (ps.map Pt.count).sum ≤ 1048576
theorem AskIn.next {w w1 : World} {A : Option Addr} {l : List Dt} {t : Ty} {Ap : Option Addr} {ps : List Pt} (h : AskIn w A l t Ap ps) (hb : Below w.heap.size w w1) : AskIn w1 A l t Ap ps:=
 ⟨h.env.next hb,h.dts.next hb,h.ty.at_ hb hb.size,h.pts.at_ hb hb.size,h.caps,h.tcap,h.pcap,h.dlen,h.count⟩
def SkOk (l : List Dt) (B : Nat) (w : World) (v : Value) : Prop:=∃ (Z : Sk) (L : List (ByteArray × Value)),v = Z.val ∧ B ≤ Z.b ∧ SkAt Z l L w ∧ Right2 l L ∧ Open_ Z w
theorem seek_one (Z : Sk) (l : List Dt) (L : List (ByteArray × Value)) (hr : Right2 l L) (A : Option Addr) (t : Ty) (Ap : Option Addr) (ps : List Pt) (ha : Asked l t ps) (k : Nat) (q : Pt) (hq : ps[k]? = some q) (W : World) (hi : AskIn W A l t Ap ps) (hV : VEnv Z l L W) (B bt bp : Nat) (A9 : Option Addr) (c9 : Nat)
  (kt : Blk W bt #[.string t.dof,.string t.name,.slice t.at_ t.args.length t.cap] 25) (kp : Blk W bp #[.string q.dof,.string q.name,.int .i64 q.num,.slice q.at_ q.args.length q.cap] 28) (ro : RowsO B W (.slice A9 k c9) (ps.take k) k) :
  Calls Tryz.prog 44 #[.pointer (some ⟨Z.b,0,none⟩),.slice (some ⟨bt,0,none⟩) 1 1,.slice A9 k c9,.slice (some ⟨bp,0,none⟩) 1 1] W fun e W' => Sm Z W W' ∧ ∃ vz,e = .returned (.tuple #[vz,.bool (!idle l t ps k)]):=by
 have hmem:=List.mem_of_getElem? hq
 have hkl:=(List.getElem?_eq_some_iff.1 hq).1
 have hl12:=ha.len
 refine Calls.mono (seek_col Z l L hr t ha.ty hi.tcap hi.caps (ps.take k) q (fun x hx => ⟨ha.pok x (List.mem_of_mem_take hx),hi.pcap x (List.mem_of_mem_take hx)⟩) ⟨ha.pok q hmem,hi.pcap q hmem⟩ k (by rw [List.length_take]; omega) (by omega) (size_one ha hq) W hV hi.ty (fun x hx => hi.pts.each x (List.mem_of_mem_take hx)) (hi.pts.each q hmem) B bt bp A9 c9 kt kp ro) ?_
 rintro e W' ⟨hs,⟨rfl,hno⟩ | ⟨hyes,A',c',out,rfl,-⟩⟩
 ·refine ⟨hs,.slice none 0 0, ?_⟩
  rw [(idle_iff hq).2 hno]
  rfl
 ·refine ⟨hs,.slice A' out.length c', ?_⟩
  cases h : idle l t ps k with
  | false => rfl
  | true => exact absurd hyes ((idle_iff hq).1 h)
end Go.Proofs.YtjeggkfgdhepaaaGreatDoor

namespace Go.Proofs.YtjeggkfgdhepaaaGreatDoor
open Go.RowKit
open Go.Proofs
open Go.Maps
theorem dTo_inv {l : List Dt} {s : ByteArray} {v : Value} (h : lookL (dTo l l.length) s = some v) : ∃ d ∈ l,d.name = s ∧ v = d.val:=by
 unfold dTo at h
 rw [lookL_map,List.take_length] at h
 obtain ⟨d,hd,rfl⟩:=Option.map_eq_some_iff.1 h
 exact ⟨d,by simpa using List.mem_of_find?_eq_some hd,bytes_of (by simpa using List.find?_some hd),rfl⟩
def numOfV : Value → Nat
 | .tuple #[.int _ m,.bool b] => if b then m.toNat else 2002
 | _ => 2002
noncomputable def lookN (bN : Nat) (W : World) (s : ByteArray) : Nat:=match (Instr.lookup 88 (.map (some bN)) (.string s) true).run Tryz.prog W with
 | .ok v _ => numOfV v
 | _ => 2002
noncomputable def potW (l : List Dt) (bN : Nat) (W : World) : Nat:=(l.map fun d => lookN bN W d.name).sum
theorem lookN_is {Z : Sk} {l : List Dt} {L : List (ByteArray × Value)} {W : World} (h : SkAt Z l L W) (s : ByteArray) (hs : s.size ≤ 1099511627776) : lookN Z.bN W s = potOf (numL L) s:=by
 obtain ⟨m,hm⟩:=h.n
 have h9:=map_look_gen true Tryz.underlying88 (zeroInt W) hm s hs
 have hk:=num_look h.vals s
 simp only [Prod.mk.injEq] at hk
 unfold lookN potOf
 rw [h9]
 simp only [if_true]
 rw [hk.1,hk.2]
 cases numL L s <;> rfl
theorem potW_is {Z : Sk} {l : List Dt} {L : List (ByteArray × Value)} {W : World} (h : SkAt Z l L W) (hs : ∀ d ∈ l,d.name.size ≤ 1099511627776) : potW l Z.bN W = pot l (numL L):=by
 unfold potW pot
 refine congrArg List.sum (List.map_congr_left fun d hd => lookN_is h d.name (hs d hd))
structure NS (l : List Dt) (w : World) (Z : Sk) (bw bD bC bE : Nat) (W : World) (L : List (ByteArray × Value)) : Prop where
 bel : Below w.heap.size w W
 box : Blk W bw #[.map (some bD),.map (some bC),.map (some bE)] 63
 sk : SkAt Z l L W
 open_ : Open_ Z W
 numb : Numb l (numL L)
 cnt : ∃ n,MapAt ofV W Z.bN n L ∧ n + pot l (numL L) ≤ 2002 * l.length
theorem NS.next {l : List Dt} {w : World} {Z : Sk} {bw bD bC bE : Nat} {W W1 : World} {L : List (ByteArray × Value)} (h : NS l w Z bw bD bC bE W L) (hb : Below W.heap.size W W1) : NS l w Z bw bD bC bE W1 L:=by
 obtain ⟨n,h1,h2⟩:=h.cnt
 have ho:=h.open_
 exact ⟨h.bel.trans (hb.mono h.bel.size),h.box.below hb h.box.lt,h.sk.next hb,(show Blk _ _ _ _ from Blk.below ho hb (Blk.lt ho)),h.numb,n,h1.next hb,h2⟩
theorem blk_map {w : World} {b b' n : Nat} {cs : Array Value} {T : TypeId} {L : List (ByteArray × Value)} (h : Blk w b cs T) (hm : MapAt ofV w b' n L) : b ≠ b':=by
 rintro rfl
 obtain ⟨D,⟨es,clock,hh,-⟩,-⟩:=hm
 unfold Blk at h
 rw [h] at hh
 cases hh
theorem NS.put {l : List Dt} {w : World} {Z : Sk} {bw bD bC bE n : Nat} {W W1 : World} {L : List (ByteArray × Value)} (hr : Right l) (h : NS l w Z bw bD bC bE W L) (hZ : w.heap.size ≤ Z.bN) (hne : Z.bN ≠ Z.bD) {d : Dt} (hd : d ∈ l) {c : Cn} (hc : c ∈ d.cons) (hok : (conN (numL L) c).2 = true) (hless : Less (numL L) d.name (conN (numL L) c).1)
  (hn : n + pot l (numL L) ≤ 2002 * l.length) (hm : MapAt ofV W1 Z.bN (n + 1) ((d.name,.int .i64 (conN (numL L) c).1) :: L)) (hg : W.grownBy W1 (some Z.bN)) :
  NS l w Z bw bD bC bE W1 ((d.name,.int .i64 (conN (numL L) c).1) :: L) ∧ pot l (numL ((d.name,.int .i64 (conN (numL L) c).1) :: L)) + 1 ≤ pot l (numL L):=by
 have hN:=numsOk h.sk.vals
 have hrg:=con_range hN c
 have hp:=pot_put hN hd hrg hless
 obtain ⟨m0,hm0⟩:=h.sk.n
 obtain ⟨f,hf⟩:=h.sk.blk
 have hb1:=blk_map h.box hm0
 have hb2:=blk_map hf hm0
 have hblk : ∀ k,k < W.heap.size → k ≠ Z.bN → W1.heap[k]? = W.heap[k]?:=fun k hk hne => hg.block k hk (by simpa using hne)
 have ho:=h.open_
 refine ⟨⟨h.bel.grown hg h.bel.size (fun k hk => by simp only [Option.some.injEq] at hk; omega),(hblk _ h.box.lt hb1).trans h.box,⟨⟨f,(hblk _ hf.lt hb2).trans hf⟩,h.sk.d.block (hblk _ h.sk.d.lt (Ne.symm hne)),⟨_,hm⟩,fun s v hv => ?_,h.sk.ned,h.sk.nen⟩,(hblk _ hf.lt hb2).trans ho,numb_put hr h.numb hd hc hok hless,n + 1,hm,by omega⟩,hp⟩
 by_cases hs : d.name = s
 ·subst hs
  rw [lookL_same] at hv
  simp only [Option.some.injEq] at hv
  exact ⟨_,hv.symm,hrg⟩
 ·rw [lookL_other _ _ hs] at hv
  exact h.sk.vals s v hv
structure Turned (l : List Dt) (L0 L : List (ByteArray × Value)) (m : Bool) : Prop where
 no : m = false → L = L0
 yes : m = true → pot l (numL L) + 1 ≤ pot l (numL L0)
def Vis (l : List Dt) (L : List (ByteArray × Value)) (left : Lit → Bool) : Prop:=∀ d ∈ l,left (keyL d.name) = false → ∀ c ∈ d.cons,QuietC (numL L) d.name c
theorem Turned.zero (l : List Dt) (L : List (ByteArray × Value)) : Turned l L L false:=⟨fun _ => rfl,fun h => by cases h⟩
theorem Turned.put {l : List Dt} {L0 L L' : List (ByteArray × Value)} {m : Bool} (h : Turned l L0 L m) (hp : pot l (numL L') + 1 ≤ pot l (numL L)) : Turned l L0 L' true:=by
 refine ⟨fun h => (by cases h),fun _ => ?_⟩
 cases m with
 | false => rw [h.no rfl] at hp; exact hp
 | true => have:=h.yes rfl; omega
theorem Vis.step {l : List Dt} {L : List (ByteArray × Value)} {left : Lit → Bool} (hr : Right l) (h : Vis l L left) {d : Dt} (hd : d ∈ l) (hq : ∀ c ∈ d.cons,QuietC (numL L) d.name c) : Vis l L (fun z => left z && !z.sameKey (keyL d.name)):=by
 intro e he hl
 simp only [Bool.and_eq_false_iff] at hl
 rcases hl with hl | hl
 ·exact h e he hl
 ·have:=keyL_same (a:=e.name) (b:=d.name) (by simpa using hl)
  have:=same_name hr he hd this
  subst this
  exact hq
theorem quiet_of {N : Nums} {n : ByteArray} {c : Cn} (h : (conN N c).2 = true → ¬Less N n (conN N c).1) : QuietC N n c:=by
 intro hc
 have:=h hc
 unfold Less at this
 cases hn : N n with
 | none => exact absurd (.inl hn) this
 | some m =>
  refine ⟨m,rfl, ?_⟩
  apply Classical.byContradiction
  intro hlt
  exact this (.inr ⟨m,hn,by omega⟩)
end Go.Proofs.YtjeggkfgdhepaaaGreatDoor

namespace Go.Proofs.YtjeggkfgdhepaaaGreatDoor
open Go.RowKit
open Go.Proofs
open Go.Maps
theorem ns_zero (l : List Dt) (w : World) (bD bC bE : Nat) (hm : MapAt ofV w bD l.length (dTo l l.length)) :
  NS l w ⟨w.heap.size + 1 + 1,bD,bC,bE,w.heap.size + 1⟩ w.heap.size bD bC bE (((w.alloc (.cells #[.map (some bD),.map (some bC),.map (some bE)] 63)).alloc (.map #[] 0)).alloc (.cells #[.map (some bD),.map (some bC),.map (some bE),.map (some (w.heap.size + 1)),.bool false] 90)) []:=by
 have hb : Below w.heap.size w (((w.alloc (.cells #[.map (some bD),.map (some bC),.map (some bE)] 63)).alloc (.map #[] 0)).alloc (.cells #[.map (some bD),.map (some bC),.map (some bE),.map (some (w.heap.size + 1)),.bool false] 90)):=(((Below.refl w.heap.size w).alloc (Nat.le_refl _) _).alloc (by simp) _).alloc (by simp; omega) _
 have hmm : MapAt ofV (((w.alloc (.cells #[.map (some bD),.map (some bC),.map (some bE)] 63)).alloc (.map #[] 0)).alloc (.cells #[.map (some bD),.map (some bC),.map (some bE),.map (some (w.heap.size + 1)),.bool false] 90)) (w.heap.size + 1) 0 []:=by
  have h:=(MapAt.made ofV (w.alloc (.cells #[.map (some bD),.map (some bC),.map (some bE)] 63))).next ((Below.refl _ _).alloc (Nat.le_refl _) (.cells #[.map (some bD),.map (some bC),.map (some bE),.map (some (w.heap.size + 1)),.bool false] 90))
  simpa using h
 have hs : Blk (((w.alloc (.cells #[.map (some bD),.map (some bC),.map (some bE)] 63)).alloc (.map #[] 0)).alloc (.cells #[.map (some bD),.map (some bC),.map (some bE),.map (some (w.heap.size + 1)),.bool false] 90)) (w.heap.size + 1 + 1) ((⟨w.heap.size + 1 + 1,bD,bC,bE,w.heap.size + 1⟩ : Sk).cells false) 90:=Blk.new' _ _ _ _ (by simp)
 have hlt:=hm.lt
 have hv : ∀ s v,lookL ([] : List (ByteArray × Value)) s = some v → ∃ m : Int,v = .int .i64 m ∧ 1 ≤ m ∧ m ≤ 2001:=fun s v h => by rw [lookL_nil] at h; cases h
 refine ⟨hb,((Blk.new w _ _).alloc _).alloc _,⟨⟨false,hs⟩,hm.next hb,⟨0,hmm⟩,hv,by simp only; omega,by simp⟩,hs,numb_nil l,0,hmm, ?_⟩
 have:=pot_max (l:=l) (numsOk hv)
 omega
theorem less_iff {N : Nums} {s : ByteArray} {n was : Int} {is : Bool} (hwas : (match N s with | some m => m | none => 0) = was) (his : (N s).isSome = is) : Less N s n ↔ (is = false ∨ n < was):=by
 subst hwas his
 unfold Less
 cases h : N s with
 | none => simp
 | some z => simp
theorem Below.range {w w1 : World} (hg : w.grownBy w1 none) : Below w.heap.size w w1:=(Below.refl _ _).grown hg (Nat.le_refl _) (fun k hk => by cases hk)
theorem range_cells {W : World} {b r n k : Nat} {L : List (ByteArray × Value)} {left : Lit → Bool} {cnt : Nat} {cs : Array Value} {T : TypeId} (h : RangeAt ofV W b r n L left cnt) (hb : Blk W k cs T) : k ≠ r:=by
 obtain ⟨D,⟨es,clock,since,seen,c0,a1,a2,a3,a4,a5,rest⟩,hn⟩:=h
 rintro rfl
 unfold Blk at hb
 rw [hb] at a5
 cases a5
theorem range_map {W : World} {b r n k m : Nat} {L L' : List (ByteArray × Value)} {left : Lit → Bool} {cnt : Nat} (h : RangeAt ofV W b r n L left cnt) (hb : MapAt ofV W k m L') : k ≠ r:=by
 obtain ⟨D,⟨es,clock,since,seen,c0,a1,a2,a3,a4,a5,rest⟩,hn⟩:=h
 rintro rfl
 obtain ⟨D',⟨es',clock',hh,-⟩,-⟩:=hb
 rw [hh] at a5
 cases a5
theorem NS.ranged {l : List Dt} {w : World} {Z : Sk} {bw bD bC bE : Nat} {W W1 : World} {L : List (ByteArray × Value)} (h : NS l w Z bw bD bC bE W L) {b r n cnt : Nat} {L' : List (ByteArray × Value)} {left : Lit → Bool} (hr : w.heap.size ≤ r) (hra : RangeAt ofV W b r n L' left cnt) (hg : W.grownBy W1 (some r)) : NS l w Z bw bD bC bE W1 L:=by
 obtain ⟨m,h1,h2⟩:=h.cnt
 obtain ⟨f,hf⟩:=h.sk.blk
 have ho:=h.open_
 have hblk : ∀ k,k < W.heap.size → k ≠ r → W1.heap[k]? = W.heap[k]?:=fun k hk hne => hg.block k hk (by simpa using hne)
 exact ⟨h.bel.grown hg h.bel.size (fun k hk => by simp only [Option.some.injEq] at hk; omega),(hblk _ h.box.lt (range_cells hra h.box)).trans h.box,⟨⟨f,(hblk _ hf.lt (range_cells hra hf)).trans hf⟩,h.sk.d.block (hblk _ h.sk.d.lt (range_map hra h.sk.d)),⟨m,h1.block (hblk _ h1.lt (range_map hra h1))⟩,h.sk.vals,h.sk.ned,h.sk.nen⟩,
  (show Blk _ _ _ _ from (hblk _ hf.lt (range_cells hra hf)).trans ho),h.numb,m,h1.block (hblk _ h1.lt (range_map hra h1)),h2⟩
set_option maxRecDepth 100000 in
set_option maxHeartbeats 8000000 in
theorem newSeeker_any (l : List Dt) (w : World) (hr : Right l) (hd : ∀ d ∈ l,d.In w.heap.size w ∧ d.cons.length ≤ 1048576) (hl : l.length ≤ 1048576) (bD bC bE : Nat) (hm : MapAt ofV w bD l.length (dTo l l.length)) :
  Calls Tryz.prog 83 #[wVal bD bC bE] w fun e w' => Below w.heap.size w w' ∧ ∃ v,e = .returned v ∧ SkOk l w.heap.size w' v:=by
 have HR:=Lib.hid hr
 have HD:=Lib.hid hd
 have H0:=Lib.hid (ns_zero l w bD bC bE hm)
 have HNB:=Lib.hid (show bD < w.heap.size from hm.lt)
 have HNM:=Lib.hid (fun (d : Dt) (h : d ∈ l) => (hd d h).1.1)
 have HLK:=Lib.hid (fun (d : Dt) (h : d ∈ l) => look_dt hr.names h)
 have HP:=Lib.hid (fun (Z : Sk) (W : World) (L : List (ByteArray × Value)) (h : NS l w Z w.heap.size bD bC bE W L) => potW_is h.sk (fun d hd1 => (hd d hd1).1.1))
 clear hr hd hm
 unfold wVal
 have hmm:=@run_makeMap Tryz.prog
 go_enter Tryz.func83,Tryz.ntmps83
 go_wp2_with fail
 clear hmm
 generalize ((w.alloc (.cells #[.map (some bD),.map (some bC),.map (some bE)] 63)).alloc (.map #[] 0)).alloc (.cells #[.map (some bD),.map (some bC),.map (some bE),.map (some (w.heap.size + 1)),.bool false] 90) = w0 at H0 ⊢
 have HNN:=Lib.hid (show w.heap.size ≤ w.heap.size + 1 ∧ w.heap.size ≤ w.heap.size + 1 + 1 from ⟨by omega,by omega⟩)
 generalize w.heap.size + 1 + 1 = bS at H0 HNN ⊢
 generalize w.heap.size + 1 = bN at H0 HNN ⊢
 go_loopw [4] (fun mv wr => ∃ (m : Bool) (L : List (ByteArray × Value)),mv = .bool m ∧ Hid (NS l w ⟨bS,bD,bC,bE,bN⟩ w.heap.size bD bC bE wr L) ∧ Hid (m = false → ∀ d ∈ l,∀ c ∈ d.cons,QuietC (numL L) d.name c)) (fun mv wr => isT mv * (potW l bN wr + 1))
 case atStart => exact ⟨true,[],rfl,H0.out,Lib.hid (fun h => by cases h)⟩
 case round =>
  obtain ⟨m0,L0,rfl,HN,HQ⟩:=hrel
  obtain ⟨y0,y1,y2⟩:=HN.out.box.three
  have yl:=HN.out.box.lt
  cases m0
  case false =>
   go_wp2_with fail
   go_ret
   exact ⟨HN.out.bel,_,rfl,⟨bS,bD,bC,bE,bN⟩,L0,rfl,HNN.out.2,HN.out.sk,right_two HR.out HN.out.numb (HQ.out (by simp)),HN.out.open_⟩
  case true =>
   have HPO:=Lib.hid (HP.out _ _ _ HN.out)
   go_wp2_with (at_range; go_must (refine map_range rfl _ 59 111 rfl Tryz.underlying59 rfl HN.out.sk.d ?_))
   intro w1 left1 cnt1 hr1 hl1 hg1 hs1
   have HR1:=Lib.hid hr1
   have HN1:=Lib.hid (HN.out.next (Below.range hg1))
   have HV1 : Hid (Vis l L0 left1):=Lib.hid (fun d hd hf => by rw [hl1,HLK.out d hd] at hf; cases hf)
   have HRN : Hid (wr.heap.size ≠ bN ∧ bD ≠ bN):=Lib.hid (by
    obtain ⟨n,h1,-⟩:=HN.out.cnt
    have:=h1.lt
    have:=HNB.out
    have:=HNN.out
    simp only at *
    omega)
   clear hr1 hl1 hg1 hs1 y0 y1 y2 yl
   obtain ⟨wo,rfl⟩ : ∃ wo : World,wo = wr:=⟨_,rfl⟩
   go_wp2_with fail
   have HRW:=Lib.hid (show w.heap.size ≤ wo.heap.size from HN.out.bel.size)
   generalize wo.heap.size = r at HR1 HRN HRW ⊢
   go_loopw [21,4] (fun _ mv wr => ∃ (left : Lit → Bool) (cnt : Nat) (m : Bool) (L : List (ByteArray × Value)),mv = .bool m ∧ Hid (RangeAt ofV wr bD r l.length (dTo l l.length) left cnt) ∧ Hid (NS l w ⟨bS,bD,bC,bE,bN⟩ w.heap.size bD bC bE wr L) ∧ Hid (Turned l L0 L m) ∧ Hid (m = false → Vis l L0 left)) (fun _ _ wr => wr.rangeLeft bD r)
   case atStart => exact ⟨left1,cnt1,false,L0,rfl,HR1.out,HN1.out,Lib.hid (Turned.zero _ _),Lib.hid (fun _ => HV1.out)⟩
   case round =>
    obtain ⟨left,cnt,m,L,rfl,HRA,HN2,HT2,HV2⟩:=hrel
    go_wp2_with (at_next; go_must (refine map_next rfl _ rfl r left cnt rfl HRA.out ofV_inj ?_ ?_))
    ·intro hdone
     have HDONE:=Lib.hid (show m = false → ∀ d ∈ l,∀ c ∈ d.cons,QuietC (numL L) d.name c from fun hf d hd c hc => by
      rw [HT2.out.no hf]
      exact HV2.out hf d hd (hdone _) c hc)
     clear hdone
     go_wp2_with fail
     refine ⟨⟨m,L,rfl,HN2.out,HDONE.out⟩, ?_⟩
     have e1:=HP.out _ _ _ HN2.out
     have e2:=HPO.out
     simp only at e1 e2
     rw [e1,e2]
     cases m with
     | false => simp [isT]
     | true => have:=HT2.out.yes rfl; simp [isT]; omega
    ·intro s v w5 cnt5 hlk hlf hr5 hlt5 hg5 hs5 hen
     obtain ⟨d,hd,rfl,rfl⟩:=dTo_inv hlk
     rcases d with ⟨dn,da,dc,cs⟩
     obtain ⟨hdi,hcn⟩:=HD.out _ hd
     have HDM:=Lib.hid hd
     have hdn : dn.size ≤ 1099511627776:=hdi.1
     have HROW:=Lib.hid (show RowAt w.heap.size w 5 da (cs.map Cn.cells) from hdi.2.2.2.1)
     have HCI:=Lib.hid (show ∀ c ∈ cs,c.In w.heap.size w from hdi.2.2.2.2)
     have HLT:=Lib.hid hlt5
     have HRGE:=Lib.hid (show w.heap.size ≤ r from HRW.out)
     have HN5:=Lib.hid (HN2.out.ranged HRGE.out HRA.out hg5)
     have HR5:=Lib.hid hr5
     simp only [Dt.val,ofV] at hen hcn HR5 ⊢
     clear hlk hlf hr5 hlt5 hg5 hs5 hdi hd
     obtain ⟨wm,rfl⟩ : ∃ wm : World,wm = wr:=⟨_,rfl⟩
     go_wp2_with fail
     have HN6:=Lib.hid (HN5.out.next ((Below.refl _ _).alloc (Nat.le_refl _) (.cells #[.string dn,.slice da cs.length dc] 111)))
     have HR6:=Lib.hid (HR5.out.next ((Below.refl _ _).alloc (Nat.le_refl _) (.cells #[.string dn,.slice da cs.length dc] 111)))
     clear hen
     generalize w5.alloc (.cells #[.string dn,.slice da cs.length dc] 111) = w6 at HN6 HR6 ⊢
     go_loopw [29,4] (fun iv mv wr => ∃ (k : Nat) (m : Bool) (L : List (ByteArray × Value)),iv = .int .i64 k ∧ mv = .bool m ∧ k ≤ cs.length ∧ Hid (RangeAt ofV wr bD r l.length (dTo l l.length) (fun z => left z && !z.sameKey (keyL dn)) cnt5) ∧ Hid (NS l w ⟨bS,bD,bC,bE,bN⟩ w.heap.size bD bC bE wr L) ∧ Hid (Turned l L0 L m) ∧ Hid (m = false → Vis l L0 left ∧ ∀ c ∈ cs.take k,QuietC (numL L0) dn c)) (fun iv _ _ => cs.length - (intOf iv).toNat)
     case atStart => exact ⟨0,m,L,rfl,rfl,Nat.zero_le _,HR6.out,HN6.out,HT2.out,Lib.hid (fun hf => ⟨HV2.out hf,fun c hc => by simp at hc⟩)⟩
     case round =>
      obtain ⟨k,m3,L3,rfl,rfl,hk,HR7,HN7,HT7,HV7⟩:=hrel
      by_cases hlt : k < cs.length
      ·obtain ⟨c,b0,off,hq,hmem,hat,hb,x0,x1,x2,x3,x4⟩:=Cn.arg_at HROW.out HN7.out.bel hlt
       have HAT:=Lib.hid hat
       subst hat
       have HQ:=Lib.hid hq
       have HMEM:=Lib.hid hmem
       have HN8:=Lib.hid (HN7.out.next ((Below.refl _ _).alloc (Nat.le_refl _) (.cells #[.string c.name,.bool c.has,.string c.ty.dof,.string c.ty.name,.slice c.ty.at_ c.ty.args.length c.ty.cap] 117)))
       have HR8:=Lib.hid (HR7.out.next ((Below.refl _ _).alloc (Nat.le_refl _) (.cells #[.string c.name,.bool c.has,.string c.ty.dof,.string c.ty.name,.slice c.ty.at_ c.ty.args.length c.ty.cap] 117)))
       have hcall:=conNodes_any ⟨bS,bD,bC,bE,bN⟩ l L3 c _ (fun hh => ((HR.out.cons _ HDM.out).2 c hmem).2 hh) ((HCI.out c hmem).at_ HN8.out.bel HN8.out.bel.size) HN8.out.sk
       obtain ⟨x,hx⟩ : ∃ x,conN (numL L3) c = x:=⟨_,rfl⟩
       rw [hx] at hcall
       obtain ⟨n,ok⟩:=x
       have HX:=Lib.hid hx
       have HC:=Lib.hid hcall
       have hrg:=con_range (numsOk HN7.out.sk.vals) c
       rw [hx] at hrg
       simp only at hrg
       unfold Cn.val Sk.val at HC
       clear hq hx hcall hmem HAT
       go_wp2_with fail
       clear x0 x1 x2 x3 x4
       refine Calls.mono HC.out ?_
       rintro e w9 ⟨rfl,hb9⟩
       have HN9:=Lib.hid (HN8.out.next hb9)
       have HR9:=Lib.hid (HR8.out.next hb9)
       clear hb9
       obtain ⟨cn,hm9,hcnt⟩:=HN9.out.cnt
       have HM9:=Lib.hid hm9
       have HCNT:=Lib.hid hcnt
       have hcb : cn ≤ 2002 * 1048576:=by omega
       have hlk:=num_look HN9.out.sk.vals dn
       simp only [Prod.mk.injEq] at hlk
       obtain ⟨was,hwas⟩ : ∃ v : Int,(match numL L3 dn with | some m => m | none => 0) = v:=⟨_,rfl⟩
       obtain ⟨is,his⟩ : ∃ b,(numL L3 dn).isSome = b:=⟨_,rfl⟩
       have HL1:=Lib.hid (show (lookL L3 dn).getD (.int .i64 0) = .int .i64 was from hlk.1.trans (congrArg (Value.int .i64) hwas))
       have HL2:=Lib.hid (hlk.2.trans his)
       have HLESS:=Lib.hid (less_iff (n:=n) hwas his)
       have hop:=HN9.out.open_
       have z3:=Blk.cell hop 3
       have zl:=Blk.lt hop
       unfold Sk.cells at z3
       simp only at z3 zl hm9
       clear hm9 hcnt hlk hwas his hop
       have HEND:=Lib.hid (show QuietC (numL L3) dn c → (m3 = false → Vis l L0 left ∧ ∀ c ∈ cs.take (k + 1),QuietC (numL L0) dn c) from fun hqc hf => by
        obtain ⟨h1,h2⟩:=HV7.out hf
        refine ⟨h1,fun c' hc' => ?_⟩
        rw [take_snoc HQ.out,List.mem_append,List.mem_singleton] at hc'
        rcases hc' with h | rfl
        ·exact h2 c' h
        ·rw [← HT7.out.no hf]
         exact hqc)
       cases ok
       case false =>
        have HV10:=Lib.hid (HEND.out (fun h => by rw [HX.out] at h; cases h))
        go_wp2_with (first | (at_lookup; refine map_look rfl _ _ 88 3 rfl Tryz.underlying88 (.int .i64 0) (zeroInt _) rfl HM9.out dn hdn rfl ofV_inj ?_; rw [HL1.out,HL2.out]) | fail)
        exact ⟨⟨k + 1,m3,L3,by go_num,rfl,by omega,HR9.out,HN9.out,HT7.out,HV10.out⟩,by simp [intOf]; omega⟩
       case true =>
        by_cases hls : is = false ∨ n < was
        ·have HLS:=Lib.hid hls
         cases is
         case false =>
          clear hls
          go_wp2_with (first | (at_lookup; refine map_look rfl _ _ 88 3 rfl Tryz.underlying88 (.int .i64 0) (zeroInt _) rfl HM9.out dn hdn rfl ofV_inj ?_; rw [HL1.out,HL2.out]) | (at_mapUpdate; go_must (refine map_put rfl _ _ _ 88 3 rfl Tryz.underlying88 rfl HM9.out (by omega) dn hdn rfl (.int .i64 n) rfl ?_)) | fail)
          intro w10 hm10 hg10
          have hput:=HN9.out.put HR.out HNN.out.1 (Ne.symm HRN.out.2) HDM.out HMEM.out (by rw [HX.out]) (by rw [HX.out]; exact HLESS.out.2 HLS.out) HCNT.out (by rw [HX.out]; exact hm10) hg10
          rw [HX.out] at hput
          have HPUT:=Lib.hid hput
          have HR10:=Lib.hid (HR9.out.blocks (hg10.block _ HN9.out.sk.d.lt (by simpa using HRN.out.2)) (hg10.block _ HR9.out.lt (by simpa using HRN.out.1)))
          clear hm10 hg10 hput
          go_wp2_with fail
          exact ⟨⟨k + 1,true,_,by go_num,rfl,by omega,HR10.out,HPUT.out.1,Lib.hid (HT7.out.put HPUT.out.2),Lib.hid (fun h => by cases h)⟩,by simp [intOf]; omega⟩
         case true =>
          have hlt2 : n < was:=by rcases hls with h | h; cases h; exact h
          clear hls
          go_wp2_with (first | (at_lookup; refine map_look rfl _ _ 88 3 rfl Tryz.underlying88 (.int .i64 0) (zeroInt _) rfl HM9.out dn hdn rfl ofV_inj ?_; rw [HL1.out,HL2.out]) | (at_mapUpdate; go_must (refine map_put rfl _ _ _ 88 3 rfl Tryz.underlying88 rfl HM9.out (by omega) dn hdn rfl (.int .i64 n) rfl ?_)) | fail)
          intro w10 hm10 hg10
          have hput:=HN9.out.put HR.out HNN.out.1 (Ne.symm HRN.out.2) HDM.out HMEM.out (by rw [HX.out]) (by rw [HX.out]; exact HLESS.out.2 HLS.out) HCNT.out (by rw [HX.out]; exact hm10) hg10
          rw [HX.out] at hput
          have HPUT:=Lib.hid hput
          have HR10:=Lib.hid (HR9.out.blocks (hg10.block _ HN9.out.sk.d.lt (by simpa using HRN.out.2)) (hg10.block _ HR9.out.lt (by simpa using HRN.out.1)))
          clear hm10 hg10 hput
          go_wp2_with fail
          exact ⟨⟨k + 1,true,_,by go_num,rfl,by omega,HR10.out,HPUT.out.1,Lib.hid (HT7.out.put HPUT.out.2),Lib.hid (fun h => by cases h)⟩,by simp [intOf]; omega⟩
        ·have HV10:=Lib.hid (HEND.out (quiet_of (fun _ hh => by rw [HX.out] at hh; exact hls (HLESS.out.1 hh))))
         obtain rfl : is = true:=by
          cases is with
          | true => rfl
          | false => exact absurd (.inl rfl) hls
         have hnl : ¬ n < was:=fun h => hls (.inr h)
         clear hls
         go_wp2_with (first | (at_lookup; refine map_look rfl _ _ 88 3 rfl Tryz.underlying88 (.int .i64 0) (zeroInt _) rfl HM9.out dn hdn rfl ofV_inj ?_; rw [HL1.out,HL2.out]) | fail)
         exact ⟨⟨k + 1,m3,L3,by go_num,rfl,by omega,HR9.out,HN9.out,HT7.out,HV10.out⟩,by simp [intOf]; omega⟩
      ·have hk2 : k = cs.length:=by omega
       have HV8:=Lib.hid (show m3 = false → Vis l L0 (fun z => left z && !z.sameKey (keyL dn)) from fun hf => by
        obtain ⟨h1,h2⟩:=HV7.out hf
        rw [hk2,List.take_length] at h2
        exact h1.step HR.out HDM.out h2)
       clear hk2
       go_wp2_with fail
       exact ⟨⟨_,cnt5,m3,L3,rfl,HR7.out,HN7.out,HT7.out,HV8.out⟩,by rw [HR7.out.left_eq,HRA.out.left_eq]; exact HLT.out⟩
theorem newSeeker_of {l : List Dt} {A : Option Addr} {w : World} {B : Nat} (hr : Right l) (hd : DtsIn w.heap.size w A l) (hc : ∀ d ∈ l,d.cons.length ≤ 1048576) (hB : B ≤ w.heap.size) (bD bC bE : Nat) (hm : MapAt ofV w bD l.length (dTo l l.length)) :
  Calls Tryz.prog 83 #[wVal bD bC bE] w fun e w' => Below w.heap.size w w' ∧ ∃ v,e = .returned v ∧ SkOk l B w' v:=by
 refine Calls.mono (newSeeker_any l w hr (fun d h => ⟨hd.each d h,hc d h⟩) hd.len bD bC bE hm) ?_
 rintro e w' ⟨hb,v,rfl,Z,L,rfl,h1,h2⟩
 exact ⟨hb,_,rfl,Z,L,rfl,Nat.le_trans hB h1,h2⟩
end Go.Proofs.YtjeggkfgdhepaaaGreatDoor
