/- Useless, by the program: the indexes of the useless patterns. -/
import Derived.Test.YtjeggkfgdhepaaaGreatDoorG11
set_option linter.unusedVariables false
set_option linter.unusedSimpArgs false
namespace Go.Proofs.YtjeggkfgdhepaaaGreatDoor
open Go.RowKit
open Go.Proofs
open Go.Maps
def UselessPost (l : List Dt) (t : Ty) (ps : List Pt) (w : World) (e : Ending) (w' : World) : Prop:=
 Below w.heap.size w w' ∧ ((askedErr l t ps = 0 ∧ ∃ v,e = .returned (.tuple #[v,.int .i64 0]) ∧ OwnI w.heap.size w' v (idleL l t ps ps.length)) ∨ (askedErr l t ps ≠ 0 ∧ e = .returned (.tuple #[.slice none 0 0,.int .i64 (askedErr l t ps)])))
set_option maxRecDepth 100000 in
set_option maxHeartbeats 4000000 in
theorem useless_any (A : Option Addr) (l : List Dt) (c : Nat) (t : Ty) (Ap : Option Addr) (ps : List Pt) (cp : Nat) (w : World) (h : AskIn w A l t Ap ps) (hcap : ps.length ≤ cp) :
  Calls Tryz.prog 18 #[.slice A l.length c,t.val,.slice Ap ps.length cp] w (UselessPost l t ps w):=by
 have H:=Lib.hid h
 have HP:=Lib.hid h.pts
 have HAQ:=Lib.hid (asked_iff (l:=l) (t:=t) h.count)
 have HASK:=Lib.hid (fun (W : World) (hW : Below w.heap.size w W) => asked_any (SkOk l w.heap.size) A l c t Ap ps cp W (fun h0 W1 bD bC bE hb1 h1 _ _ => newSeeker_of (HAQ.out.1 h0).right ((H.out.next hW).next hb1).dts ((H.out.next hW).next hb1).dlen (Nat.le_trans hW.size hb1.size) bD bC bE h1) (h.env.next hW) (h.dts.next hW) (h.ty.at_ hW hW.size) (h.pts.at_ hW hW.size))
 obtain ⟨i0,hi,hz0,hz1,hz2⟩:=info_parts infoInt
 clear h
 have HB0:=Lib.hid ((Below.refl w.heap.size w).alloc (Nat.le_refl _) (.cells #[.string t.dof,.string t.name,.slice t.at_ t.args.length t.cap] 25))
 have K0:=Lib.hid (Blk.new w #[.string t.dof,.string t.name,.slice t.at_ t.args.length t.cap] 25)
 unfold Ty.val at *
 go_enter Tryz.func18,Tryz.ntmps18
 go_wp2_with fail
 refine Calls.mono (HASK.out _ HB0.out) ?_
 rintro e w1 ⟨hb1,⟨h0,v1,rfl,Z,L,rfl,hZb,hska,hr2,-⟩ | ⟨hne,rfl⟩⟩
 case inr =>
  have HB1:=Lib.hid (HB0.out.trans (hb1.mono HB0.out.size))
  have HNE:=Lib.hid hne
  have hne2 : (askedErr l t ps == 0) = false:=by simpa using hne
  generalize hq : askedErr l t ps = er at *
  have HQ:=Lib.hid hq
  clear hb1 hne hq
  go_wp2_with fail
  exact bodyPost_ret (v:=.tuple #[.slice none 0 0,.int .i64 er]) (by simp [results,Tryz.results18,go_sem]) rfl ⟨HB1.out,.inr ⟨by rw [HQ.out]; exact HNE.out,by rw [HQ.out]⟩⟩
 have HASKED:=Lib.hid (HAQ.out.1 h0)
 have HZERO:=Lib.hid h0
 have hl12:=HASKED.out.len
 have HB1:=Lib.hid (HB0.out.trans (hb1.mono HB0.out.size))
 have K1:=Lib.hid (K0.out.below hb1 K0.out.lt)
 have HV1:=Lib.hid (show VEnv Z l L w1 from ⟨hska,fun d hd => ⟨(H.out.next HB1.out).dts.each d hd,H.out.dlen d hd⟩⟩)
 have HZB:=Lib.hid hZb
 have HR2:=Lib.hid hr2
 clear hb1 hska hr2 hZb h0
 unfold Sk.val
 go_wp2_with fail
 go_loopw [27,10] (fun iv ov wr => ∃ k : Nat,iv = .int .i64 k ∧ k ≤ ps.length ∧ Hid (Below w.heap.size w wr) ∧ Hid (Blk wr w.heap.size #[.string t.dof,.string t.name,.slice t.at_ t.args.length t.cap] 25) ∧ Hid (OwnI (w.heap.size + 1) wr ov (idleL l t ps k)) ∧ Hid (VEnv Z l L wr)) (fun iv _ _ => ps.length - (intOf iv).toNat)
 case atStart => exact ⟨0,rfl,Nat.zero_le _,HB1.out,K1.out,Lib.hid ⟨none,0,by unfold idleL idleN; rfl,World.ownsRow_nil _ _ _ _⟩,HV1.out⟩
 case round =>
  obtain ⟨k,rfl,hk,HB,HK,HO,HV⟩:=hrel
  obtain ⟨A',c',rfl,hown⟩:=HO.out
  have HOWN:=Lib.hid hown
  clear hown
  by_cases hlt : k < ps.length
  ·obtain ⟨q,b0,off,hq,hmem,rfl,hb,x0,x1,x2,x3⟩:=Pt.arg_at HP.out.row HB.out hlt
   have HQ:=Lib.hid hq
   have hs0:=HB.out.size
   have kc : k ≤ cp:=by omega
   clear hq
   go_wp2_with fail
   have HP0:=Lib.hid (show P7 w.heap.size wr.heap.size t q (wr.alloc (.cells #[.string q.dof,.string q.name,.int .i64 q.num,.slice q.at_ q.args.length q.cap] 28)) from ⟨(HK.out.alloc _).cell 0,(HK.out.alloc _).cell 1,(HK.out.alloc _).cell 2,(Blk.new wr _ _).cell 0,(Blk.new wr _ _).cell 1,(Blk.new wr _ _).cell 2,(Blk.new wr _ _).cell 3⟩)
   have HBW:=Lib.hid (HB.out.alloc hs0 (.cells #[.string q.dof,.string q.name,.int .i64 q.num,.slice q.at_ q.args.length q.cap] 28))
   have HKW:=Lib.hid (HK.out.alloc (.cells #[.string q.dof,.string q.name,.int .i64 q.num,.slice q.at_ q.args.length q.cap] 28))
   have HQW:=Lib.hid (Blk.new wr #[.string q.dof,.string q.name,.int .i64 q.num,.slice q.at_ q.args.length q.cap] 28)
   have HOW:=Lib.hid (World.ownsRow.alloc HOWN.out (.cells #[.string q.dof,.string q.name,.int .i64 q.num,.slice q.at_ q.args.length q.cap] 28))
   have HVW:=Lib.hid (HV.out.next ((Below.refl _ _).alloc (Nat.le_refl _) (.cells #[.string q.dof,.string q.name,.int .i64 q.num,.slice q.at_ q.args.length q.cap] 28)))
   clear x0 x1 x2 x3 HP0
   generalize wr.alloc (.cells #[.string q.dof,.string q.name,.int .i64 q.num,.slice q.at_ q.args.length q.cap] 28) = w0 at HBW HKW HQW HOW HVW ⊢
   have HSF:=Lib.hid (fun W (hW : Below w0.heap.size w0 W) => (show P7 w.heap.size wr.heap.size t q W from by
    have k1:=HKW.out.below hW HKW.out.lt
    have k2:=HQW.out.below hW HQW.out.lt
    exact ⟨k1.cell 0,k1.cell 1,k1.cell 2,k2.cell 0,k2.cell 1,k2.cell 2,k2.cell 3⟩))
   have HZ0:=Lib.hid (Below.refl w0.heap.size w0)
   have HROWS:=Lib.hid (fun (W : World) (hW : Below w.heap.size w W) => (by
    have hl : (ps.take k).length = k:=by simp; omega
    have h:=rows_any (some ⟨b0,off,none⟩) (ps.take k) cp W (by omega) (by rw [List.map_take]; exact RowAt.take ((HP.out.at_ hW hW.size).row) k) (fun q hq => (HP.out.each q (List.mem_of_mem_take hq)).at_ hW hW.size)
    rw [hl] at h
    exact h : Calls Tryz.prog 45 #[.slice (some ⟨b0,off,none⟩) k cp] W fun e w' => Below W.heap.size W w' ∧ ∃ v,e = .returned v ∧ RowsO W.heap.size w' v (ps.take k) k))
   have HSEEK:=Lib.hid (fun (W : World) (bt bp : Nat) (A9 : Option Addr) (c9 : Nat) (hW : Below w.heap.size w W) (hV : VEnv Z l L W) (kt : Blk W bt #[.string t.dof,.string t.name,.slice t.at_ t.args.length t.cap] 25) (kp : Blk W bp #[.string q.dof,.string q.name,.int .i64 q.num,.slice q.at_ q.args.length q.cap] 28) (ro : RowsO w.heap.size W (.slice A9 k c9) (ps.take k) k) =>
    seek_one Z l L HR2.out A t _ ps HASKED.out k q HQ.out W (H.out.next hW) hV w.heap.size bt bp A9 c9 kt kp ro)
   obtain ⟨z,hz⟩ : ∃ z,(!idle l t ps k) = z:=⟨_,rfl⟩
   have HU1:=Lib.hid (fun (hh : z = true) => (show idleL l t ps (k + 1) = idleL l t ps k from idleL_no (by rw [← hz] at hh; simpa using hh)))
   have HU2:=Lib.hid (fun (hh : z = false) => (show idleL l t ps (k + 1) = idleL l t ps k ++ [.int .i64 (k : Nat)] from idleL_yes (by rw [← hz] at hh; simpa using hh)))
   have HUL:=Lib.hid (show (idleL l t ps k).length ≤ 12 by have:=idleL_len l t ps k; omega)
   rw [hz] at HSEEK
   clear hz
   refine region_ord (P7 w.heap.size wr.heap.size t q) (.read 0 (.read 1 (.read 3 (.read 4 (.read 5 (.read 7 (.three 2 (.two 6 (.one 8 (.one 9 (.read 10 (.read 11 (.read 12 (.one 13 (.one 14 .done))))))) 8 (.one 6 (.one 9 (.read 10 (.read 11 (.read 12 (.one 13 (.one 14 .done)))))))) 6 (.two 2 (.one 8 (.one 9 (.read 10 (.read 11 (.read 12 (.one 13 (.one 14 .done))))))) 8 (.one 2 (.one 9 (.read 10 (.read 11 (.read 12 (.one 13 (.one 14 .done)))))))) 8 (.two 2 (.one 6 (.one 9 (.read 10 (.read 11 (.read 12 (.one 13 (.one 14 .done))))))) 6 (.one 2 (.one 9 (.read 10 (.read 11 (.read 12 (.one 13 (.one 14 .done))))))))))))))) (by kernel_rfl) (by kernel_rfl) (HSF.out _ HZ0.out.drew) ?_
   iterate 6
    refine wpOrd_read _ ?_ rfl (by rfl) (fun W hW => ?_) ?_
    rotate_left
    ·unfold P7 at hW
     go_simp
     try with_reducible rfl
    simp only [Act.put,List.setIfInBounds_toArray,List.set_cons_zero,List.set_cons_succ]
   refine ⟨?_, ?_, ?_⟩
   ·refine stepAt_of _ rfl rfl (fun K hK => ?_)
    go_simp
    have KT:=Lib.hid (show Blk ((w0.alloc (.cells #[.string t.dof,.string t.name,.slice t.at_ t.args.length t.cap] 25)).drew) w0.heap.size #[.string t.dof,.string t.name,.slice t.at_ t.args.length t.cap] 25 from Blk.new w0 _ _)
    have HS1:=Lib.hid (show Below w0.heap.size w0 ((w0.alloc (.cells #[.string t.dof,.string t.name,.slice t.at_ t.args.length t.cap] 25)).drew) from ((Below.refl _ _).alloc (Nat.le_refl _) _).drew)
    have HZ1:=Lib.hid (HZ0.out.trans (HS1.out.mono HZ0.out.size))
    refine hK _ _ ⟨HSF.out _ HZ1.out, ?_⟩
    clear hK K
    generalize ((w0.alloc (.cells #[.string t.dof,.string t.name,.slice t.at_ t.args.length t.cap] 25)).drew) = wx1 at KT HS1 HZ1 ⊢
    refine wpOrd_two ?_ ?_
    ·refine stepAt_of _ rfl rfl (fun K hK => ?_)
     go_simp
     have HD:=Lib.hid (HBW.out.trans (HZ1.out.mono HBW.out.size))
     refine Calls.mono (HROWS.out _ HD.out) ?_
     rintro e wx2 ⟨hb9,v9,rfl,hro⟩
     obtain ⟨rs9,A9,c9,hr1,rfl,hr2,hr3⟩:=hro
     have RO : Hid (RowsO w.heap.size wx2 (.slice A9 k c9) (ps.take k) k):=Lib.hid ⟨rs9,A9,c9,hr1,rfl,own_wide hr2 HD.out.size,hr3⟩
     have HS2:=Lib.hid (show Below wx1.heap.size wx1 wx2 from hb9)
     have KT:=Lib.hid (KT.out.below HS2.out KT.out.lt)
     have HZ2:=Lib.hid (HZ1.out.trans (HS2.out.mono HZ1.out.size))
     refine hK _ _ ⟨HSF.out _ HZ2.out, ?_⟩
     clear hK K hb9 hr1 hr2 hr3
     refine wpOrd_one ?_
     ·refine stepAt_of _ rfl rfl (fun K hK => ?_)
      go_simp
      have KP:=Lib.hid (show Blk (wx2.alloc (.cells #[.string q.dof,.string q.name,.int .i64 q.num,.slice q.at_ q.args.length q.cap] 28)) wx2.heap.size #[.string q.dof,.string q.name,.int .i64 q.num,.slice q.at_ q.args.length q.cap] 28 from Blk.new wx2 _ _)
      have HS3:=Lib.hid (show Below wx2.heap.size wx2 (wx2.alloc (.cells #[.string q.dof,.string q.name,.int .i64 q.num,.slice q.at_ q.args.length q.cap] 28)) from (Below.refl _ _).alloc (Nat.le_refl _) _)
      have KT:=Lib.hid (KT.out.below HS3.out KT.out.lt)
      have RO:=Lib.hid (RO.out.keep HS3.out)
      have HZ3:=Lib.hid (HZ2.out.trans (HS3.out.mono HZ2.out.size))
      refine hK _ _ ⟨HSF.out _ HZ3.out, ?_⟩
      clear hK K
      generalize (wx2.alloc (.cells #[.string q.dof,.string q.name,.int .i64 q.num,.slice q.at_ q.args.length q.cap] 28)) = wx3 at KP HS3 HZ3 KT RO ⊢
      refine wpOrd_one ?_
      refine stepAt_of _ rfl rfl (fun K hK => ?_)
      go_simp
      refine Calls.mono (HSEEK.out _ _ _ _ _ (HBW.out.trans (HZ3.out.mono HBW.out.size)) (HVW.out.next HZ3.out) KT.out KP.out RO.out) ?_
      rintro e wz ⟨hsz,vz,rfl⟩
      have HSZ:=Lib.hid hsz
      have HPZ:=Lib.hid (show P7 w.heap.size wr.heap.size t q wz from by
       have k1:=hsz.blk (HKW.out.below HZ3.out HKW.out.lt) (by decide)
       have k2:=hsz.blk (HQW.out.below HZ3.out HQW.out.lt) (by decide)
       exact ⟨k1.cell 0,k1.cell 1,k1.cell 2,k2.cell 0,k2.cell 1,k2.cell 2,k2.cell 3⟩)
      refine hK _ _ ⟨HPZ.out, ?_⟩
      clear hK K hsz
      refine wpOrd_read _ ?_ rfl (by rfl) (fun W hW => ?_) ?_
      rotate_left
      ·unfold P7 at hW
       go_simp
       try with_reducible rfl
      simp only [Act.put,List.setIfInBounds_toArray,List.set_cons_zero,List.set_cons_succ]
      refine wpOrd_read _ ?_ rfl (by rfl) (fun W hW => ?_) ?_
      rotate_left
      ·unfold P7 at hW
       go_simp
       try with_reducible rfl
      simp only [Act.put,List.setIfInBounds_toArray,List.set_cons_zero,List.set_cons_succ]
      refine wpOrd_read _ ?_ rfl (by rfl) (fun W hW => ?_) ?_
      rotate_left
      ·unfold P7 at hW
       go_simp
       try with_reducible rfl
      simp only [Act.put,List.setIfInBounds_toArray,List.set_cons_zero,List.set_cons_succ]
      iterate 2
       refine wpOrd_one ?_
       refine stepAt_of _ rfl rfl (fun K hK => ?_)
       go_simp
       refine hK _ _ ⟨HPZ.out, ?_⟩
       clear hK K
      refine wpOrd_done ?_
      refine NoPanic.normal ?_
      have HBZ:=Lib.hid ((HBW.out.trans (HZ3.out.mono HBW.out.size)).trans (HSZ.out.below (by have:=HBW.out.size; have:=HZ3.out.size; omega) HZB.out))
      have HKZ:=Lib.hid (HSZ.out.blk (HKW.out.below HZ3.out HKW.out.lt) (by decide))
      have HOZ:=Lib.hid (HSZ.out.own (row_stays HOW.out fun i hi => HZ3.out.block i (HOW.out.lt i hi).2) (by decide))
      have HVZ:=Lib.hid ((HVW.out.next HZ3.out).sm HSZ.out)
      have hzs:=HKZ.out.lt
      cases z
      case true =>
       go_wp2_with fail
       exact ⟨⟨k + 1,by go_num,by omega,HBZ.out,HKZ.out,Lib.hid ⟨A',c',by rw [HU1.out (by simp)],by rw [HU1.out (by simp)]; exact HOZ.out⟩,HVZ.out⟩,by simp [intOf]; omega⟩
      case false =>
       go_wp2_with (at_builtin; go_must (refine wpList_append_own_at _ rfl (.tmp 47) (.tmp 49) 41 rfl (w.heap.size + 1) 3 i0 _ 1 8 Tryz.underlying41 hi hz0 hz1 hz2 rfl (by decide) (.slice A' (idleL l t ps k).length c') (idleL l t ps k).length (idleL l t ps k) rfl (HOZ.out.alloc _) ⟨wz.heap.size,0,none⟩ 1 1 [.int .i64 k] rfl rfl (World.news_of_block (heap_alloc_new wz _)) (by simp [Value.oneCell']) (by have:=HUL.out; unfold maxLen; omega) (by have:=HUL.out; omega) (by first | omega | (simp; omega)) ?_))
       intro v' w9 hown hgrow _ _
       obtain ⟨A5,c5,rfl,-⟩:=row_slice hown
       have hb9 : Below w.heap.size w w9:=(HBZ.out.alloc HBZ.out.size _).grown hgrow (by simp; omega) (fun i hi => by have:=(HOZ.out.lt i hi).1; omega)
       have hk9 : Blk w9 w.heap.size _ _:=(hgrow.block _ (by simp; omega) (fun e => by have:=(HOZ.out.lt _ e.symm).1; omega)).trans (HKZ.out.alloc _)
       have HB9:=Lib.hid hb9
       have HK9:=Lib.hid hk9
       have HO9:=Lib.hid hown
       have HV9:=Lib.hid (show VEnv Z l L w9 from ⟨SkAt.grown (HVZ.out.sk.next ((Below.refl _ _).alloc (Nat.le_refl _) (.cells #[.int .i64 k] 3))) (HOZ.out.alloc _) hgrow,fun d hd => ⟨(H.out.next HB9.out).dts.each d hd,H.out.dlen d hd⟩⟩)
       clear hown hgrow hb9 hk9
       go_wp2_with fail
       exact ⟨⟨k + 1,by go_num,by omega,HB9.out,HK9.out,Lib.hid ⟨A5,c5,by rw [HU2.out (by simp)]; simp,by rw [HU2.out (by simp)]; have:=HO9.out; simpa using this⟩,HV9.out⟩,by simp [intOf]; omega⟩
    ·refine stepAt_of _ rfl rfl (fun K hK => ?_)
     go_simp
     have KP:=Lib.hid (show Blk (wx1.alloc (.cells #[.string q.dof,.string q.name,.int .i64 q.num,.slice q.at_ q.args.length q.cap] 28)) wx1.heap.size #[.string q.dof,.string q.name,.int .i64 q.num,.slice q.at_ q.args.length q.cap] 28 from Blk.new wx1 _ _)
     have HS2:=Lib.hid (show Below wx1.heap.size wx1 (wx1.alloc (.cells #[.string q.dof,.string q.name,.int .i64 q.num,.slice q.at_ q.args.length q.cap] 28)) from (Below.refl _ _).alloc (Nat.le_refl _) _)
     have KT:=Lib.hid (KT.out.below HS2.out KT.out.lt)
     have HZ2:=Lib.hid (HZ1.out.trans (HS2.out.mono HZ1.out.size))
     refine hK _ _ ⟨HSF.out _ HZ2.out, ?_⟩
     clear hK K
     generalize (wx1.alloc (.cells #[.string q.dof,.string q.name,.int .i64 q.num,.slice q.at_ q.args.length q.cap] 28)) = wx2 at KP HS2 HZ2 KT ⊢
     refine wpOrd_one ?_
     ·refine stepAt_of _ rfl rfl (fun K hK => ?_)
      go_simp
      have HD:=Lib.hid (HBW.out.trans (HZ2.out.mono HBW.out.size))
      refine Calls.mono (HROWS.out _ HD.out) ?_
      rintro e wx3 ⟨hb9,v9,rfl,hro⟩
      obtain ⟨rs9,A9,c9,hr1,rfl,hr2,hr3⟩:=hro
      have RO : Hid (RowsO w.heap.size wx3 (.slice A9 k c9) (ps.take k) k):=Lib.hid ⟨rs9,A9,c9,hr1,rfl,own_wide hr2 HD.out.size,hr3⟩
      have HS3:=Lib.hid (show Below wx2.heap.size wx2 wx3 from hb9)
      have KT:=Lib.hid (KT.out.below HS3.out KT.out.lt)
      have KP:=Lib.hid (KP.out.below HS3.out KP.out.lt)
      have HZ3:=Lib.hid (HZ2.out.trans (HS3.out.mono HZ2.out.size))
      refine hK _ _ ⟨HSF.out _ HZ3.out, ?_⟩
      clear hK K hb9 hr1 hr2 hr3
      refine wpOrd_one ?_
      refine stepAt_of _ rfl rfl (fun K hK => ?_)
      go_simp
      refine Calls.mono (HSEEK.out _ _ _ _ _ (HBW.out.trans (HZ3.out.mono HBW.out.size)) (HVW.out.next HZ3.out) KT.out KP.out RO.out) ?_
      rintro e wz ⟨hsz,vz,rfl⟩
      have HSZ:=Lib.hid hsz
      have HPZ:=Lib.hid (show P7 w.heap.size wr.heap.size t q wz from by
       have k1:=hsz.blk (HKW.out.below HZ3.out HKW.out.lt) (by decide)
       have k2:=hsz.blk (HQW.out.below HZ3.out HQW.out.lt) (by decide)
       exact ⟨k1.cell 0,k1.cell 1,k1.cell 2,k2.cell 0,k2.cell 1,k2.cell 2,k2.cell 3⟩)
      refine hK _ _ ⟨HPZ.out, ?_⟩
      clear hK K hsz
      refine wpOrd_read _ ?_ rfl (by rfl) (fun W hW => ?_) ?_
      rotate_left
      ·unfold P7 at hW
       go_simp
       try with_reducible rfl
      simp only [Act.put,List.setIfInBounds_toArray,List.set_cons_zero,List.set_cons_succ]
      refine wpOrd_read _ ?_ rfl (by rfl) (fun W hW => ?_) ?_
      rotate_left
      ·unfold P7 at hW
       go_simp
       try with_reducible rfl
      simp only [Act.put,List.setIfInBounds_toArray,List.set_cons_zero,List.set_cons_succ]
      refine wpOrd_read _ ?_ rfl (by rfl) (fun W hW => ?_) ?_
      rotate_left
      ·unfold P7 at hW
       go_simp
       try with_reducible rfl
      simp only [Act.put,List.setIfInBounds_toArray,List.set_cons_zero,List.set_cons_succ]
      iterate 2
       refine wpOrd_one ?_
       refine stepAt_of _ rfl rfl (fun K hK => ?_)
       go_simp
       refine hK _ _ ⟨HPZ.out, ?_⟩
       clear hK K
      refine wpOrd_done ?_
      refine NoPanic.normal ?_
      have HBZ:=Lib.hid ((HBW.out.trans (HZ3.out.mono HBW.out.size)).trans (HSZ.out.below (by have:=HBW.out.size; have:=HZ3.out.size; omega) HZB.out))
      have HKZ:=Lib.hid (HSZ.out.blk (HKW.out.below HZ3.out HKW.out.lt) (by decide))
      have HOZ:=Lib.hid (HSZ.out.own (row_stays HOW.out fun i hi => HZ3.out.block i (HOW.out.lt i hi).2) (by decide))
      have HVZ:=Lib.hid ((HVW.out.next HZ3.out).sm HSZ.out)
      have hzs:=HKZ.out.lt
      cases z
      case true =>
       go_wp2_with fail
       exact ⟨⟨k + 1,by go_num,by omega,HBZ.out,HKZ.out,Lib.hid ⟨A',c',by rw [HU1.out (by simp)],by rw [HU1.out (by simp)]; exact HOZ.out⟩,HVZ.out⟩,by simp [intOf]; omega⟩
      case false =>
       go_wp2_with (at_builtin; go_must (refine wpList_append_own_at _ rfl (.tmp 47) (.tmp 49) 41 rfl (w.heap.size + 1) 3 i0 _ 1 8 Tryz.underlying41 hi hz0 hz1 hz2 rfl (by decide) (.slice A' (idleL l t ps k).length c') (idleL l t ps k).length (idleL l t ps k) rfl (HOZ.out.alloc _) ⟨wz.heap.size,0,none⟩ 1 1 [.int .i64 k] rfl rfl (World.news_of_block (heap_alloc_new wz _)) (by simp [Value.oneCell']) (by have:=HUL.out; unfold maxLen; omega) (by have:=HUL.out; omega) (by first | omega | (simp; omega)) ?_))
       intro v' w9 hown hgrow _ _
       obtain ⟨A5,c5,rfl,-⟩:=row_slice hown
       have hb9 : Below w.heap.size w w9:=(HBZ.out.alloc HBZ.out.size _).grown hgrow (by simp; omega) (fun i hi => by have:=(HOZ.out.lt i hi).1; omega)
       have hk9 : Blk w9 w.heap.size _ _:=(hgrow.block _ (by simp; omega) (fun e => by have:=(HOZ.out.lt _ e.symm).1; omega)).trans (HKZ.out.alloc _)
       have HB9:=Lib.hid hb9
       have HK9:=Lib.hid hk9
       have HO9:=Lib.hid hown
       have HV9:=Lib.hid (show VEnv Z l L w9 from ⟨SkAt.grown (HVZ.out.sk.next ((Below.refl _ _).alloc (Nat.le_refl _) (.cells #[.int .i64 k] 3))) (HOZ.out.alloc _) hgrow,fun d hd => ⟨(H.out.next HB9.out).dts.each d hd,H.out.dlen d hd⟩⟩)
       clear hown hgrow hb9 hk9
       go_wp2_with fail
       exact ⟨⟨k + 1,by go_num,by omega,HB9.out,HK9.out,Lib.hid ⟨A5,c5,by rw [HU2.out (by simp)]; simp,by rw [HU2.out (by simp)]; have:=HO9.out; simpa using this⟩,HV9.out⟩,by simp [intOf]; omega⟩
   ·refine stepAt_of _ rfl rfl (fun K hK => ?_)
    go_simp
    have HD:=Lib.hid (show Below w.heap.size w w0.drew from (HBW.out.trans (HZ0.out.mono HBW.out.size)).drew)
    refine Calls.mono (HROWS.out _ HD.out) ?_
    rintro e wx1 ⟨hb9,v9,rfl,hro⟩
    obtain ⟨rs9,A9,c9,hr1,rfl,hr2,hr3⟩:=hro
    have RO : Hid (RowsO w.heap.size wx1 (.slice A9 k c9) (ps.take k) k):=Lib.hid ⟨rs9,A9,c9,hr1,rfl,own_wide hr2 HD.out.size,hr3⟩
    have HS1:=Lib.hid (show Below w0.heap.size w0 wx1 from (Below.refl _ _).drew.trans hb9)
    have HZ1:=Lib.hid (HZ0.out.trans (HS1.out.mono HZ0.out.size))
    refine hK _ _ ⟨HSF.out _ HZ1.out, ?_⟩
    clear hK K hb9 hr1 hr2 hr3
    refine wpOrd_two ?_ ?_
    ·refine stepAt_of _ rfl rfl (fun K hK => ?_)
     go_simp
     have KT:=Lib.hid (show Blk (wx1.alloc (.cells #[.string t.dof,.string t.name,.slice t.at_ t.args.length t.cap] 25)) wx1.heap.size #[.string t.dof,.string t.name,.slice t.at_ t.args.length t.cap] 25 from Blk.new wx1 _ _)
     have HS2:=Lib.hid (show Below wx1.heap.size wx1 (wx1.alloc (.cells #[.string t.dof,.string t.name,.slice t.at_ t.args.length t.cap] 25)) from (Below.refl _ _).alloc (Nat.le_refl _) _)
     have RO:=Lib.hid (RO.out.keep HS2.out)
     have HZ2:=Lib.hid (HZ1.out.trans (HS2.out.mono HZ1.out.size))
     refine hK _ _ ⟨HSF.out _ HZ2.out, ?_⟩
     clear hK K
     generalize (wx1.alloc (.cells #[.string t.dof,.string t.name,.slice t.at_ t.args.length t.cap] 25)) = wx2 at KT HS2 HZ2 RO ⊢
     refine wpOrd_one ?_
     ·refine stepAt_of _ rfl rfl (fun K hK => ?_)
      go_simp
      have KP:=Lib.hid (show Blk (wx2.alloc (.cells #[.string q.dof,.string q.name,.int .i64 q.num,.slice q.at_ q.args.length q.cap] 28)) wx2.heap.size #[.string q.dof,.string q.name,.int .i64 q.num,.slice q.at_ q.args.length q.cap] 28 from Blk.new wx2 _ _)
      have HS3:=Lib.hid (show Below wx2.heap.size wx2 (wx2.alloc (.cells #[.string q.dof,.string q.name,.int .i64 q.num,.slice q.at_ q.args.length q.cap] 28)) from (Below.refl _ _).alloc (Nat.le_refl _) _)
      have RO:=Lib.hid (RO.out.keep HS3.out)
      have KT:=Lib.hid (KT.out.below HS3.out KT.out.lt)
      have HZ3:=Lib.hid (HZ2.out.trans (HS3.out.mono HZ2.out.size))
      refine hK _ _ ⟨HSF.out _ HZ3.out, ?_⟩
      clear hK K
      generalize (wx2.alloc (.cells #[.string q.dof,.string q.name,.int .i64 q.num,.slice q.at_ q.args.length q.cap] 28)) = wx3 at KP HS3 HZ3 RO KT ⊢
      refine wpOrd_one ?_
      refine stepAt_of _ rfl rfl (fun K hK => ?_)
      go_simp
      refine Calls.mono (HSEEK.out _ _ _ _ _ (HBW.out.trans (HZ3.out.mono HBW.out.size)) (HVW.out.next HZ3.out) KT.out KP.out RO.out) ?_
      rintro e wz ⟨hsz,vz,rfl⟩
      have HSZ:=Lib.hid hsz
      have HPZ:=Lib.hid (show P7 w.heap.size wr.heap.size t q wz from by
       have k1:=hsz.blk (HKW.out.below HZ3.out HKW.out.lt) (by decide)
       have k2:=hsz.blk (HQW.out.below HZ3.out HQW.out.lt) (by decide)
       exact ⟨k1.cell 0,k1.cell 1,k1.cell 2,k2.cell 0,k2.cell 1,k2.cell 2,k2.cell 3⟩)
      refine hK _ _ ⟨HPZ.out, ?_⟩
      clear hK K hsz
      refine wpOrd_read _ ?_ rfl (by rfl) (fun W hW => ?_) ?_
      rotate_left
      ·unfold P7 at hW
       go_simp
       try with_reducible rfl
      simp only [Act.put,List.setIfInBounds_toArray,List.set_cons_zero,List.set_cons_succ]
      refine wpOrd_read _ ?_ rfl (by rfl) (fun W hW => ?_) ?_
      rotate_left
      ·unfold P7 at hW
       go_simp
       try with_reducible rfl
      simp only [Act.put,List.setIfInBounds_toArray,List.set_cons_zero,List.set_cons_succ]
      refine wpOrd_read _ ?_ rfl (by rfl) (fun W hW => ?_) ?_
      rotate_left
      ·unfold P7 at hW
       go_simp
       try with_reducible rfl
      simp only [Act.put,List.setIfInBounds_toArray,List.set_cons_zero,List.set_cons_succ]
      iterate 2
       refine wpOrd_one ?_
       refine stepAt_of _ rfl rfl (fun K hK => ?_)
       go_simp
       refine hK _ _ ⟨HPZ.out, ?_⟩
       clear hK K
      refine wpOrd_done ?_
      refine NoPanic.normal ?_
      have HBZ:=Lib.hid ((HBW.out.trans (HZ3.out.mono HBW.out.size)).trans (HSZ.out.below (by have:=HBW.out.size; have:=HZ3.out.size; omega) HZB.out))
      have HKZ:=Lib.hid (HSZ.out.blk (HKW.out.below HZ3.out HKW.out.lt) (by decide))
      have HOZ:=Lib.hid (HSZ.out.own (row_stays HOW.out fun i hi => HZ3.out.block i (HOW.out.lt i hi).2) (by decide))
      have HVZ:=Lib.hid ((HVW.out.next HZ3.out).sm HSZ.out)
      have hzs:=HKZ.out.lt
      cases z
      case true =>
       go_wp2_with fail
       exact ⟨⟨k + 1,by go_num,by omega,HBZ.out,HKZ.out,Lib.hid ⟨A',c',by rw [HU1.out (by simp)],by rw [HU1.out (by simp)]; exact HOZ.out⟩,HVZ.out⟩,by simp [intOf]; omega⟩
      case false =>
       go_wp2_with (at_builtin; go_must (refine wpList_append_own_at _ rfl (.tmp 47) (.tmp 49) 41 rfl (w.heap.size + 1) 3 i0 _ 1 8 Tryz.underlying41 hi hz0 hz1 hz2 rfl (by decide) (.slice A' (idleL l t ps k).length c') (idleL l t ps k).length (idleL l t ps k) rfl (HOZ.out.alloc _) ⟨wz.heap.size,0,none⟩ 1 1 [.int .i64 k] rfl rfl (World.news_of_block (heap_alloc_new wz _)) (by simp [Value.oneCell']) (by have:=HUL.out; unfold maxLen; omega) (by have:=HUL.out; omega) (by first | omega | (simp; omega)) ?_))
       intro v' w9 hown hgrow _ _
       obtain ⟨A5,c5,rfl,-⟩:=row_slice hown
       have hb9 : Below w.heap.size w w9:=(HBZ.out.alloc HBZ.out.size _).grown hgrow (by simp; omega) (fun i hi => by have:=(HOZ.out.lt i hi).1; omega)
       have hk9 : Blk w9 w.heap.size _ _:=(hgrow.block _ (by simp; omega) (fun e => by have:=(HOZ.out.lt _ e.symm).1; omega)).trans (HKZ.out.alloc _)
       have HB9:=Lib.hid hb9
       have HK9:=Lib.hid hk9
       have HO9:=Lib.hid hown
       have HV9:=Lib.hid (show VEnv Z l L w9 from ⟨SkAt.grown (HVZ.out.sk.next ((Below.refl _ _).alloc (Nat.le_refl _) (.cells #[.int .i64 k] 3))) (HOZ.out.alloc _) hgrow,fun d hd => ⟨(H.out.next HB9.out).dts.each d hd,H.out.dlen d hd⟩⟩)
       clear hown hgrow hb9 hk9
       go_wp2_with fail
       exact ⟨⟨k + 1,by go_num,by omega,HB9.out,HK9.out,Lib.hid ⟨A5,c5,by rw [HU2.out (by simp)]; simp,by rw [HU2.out (by simp)]; have:=HO9.out; simpa using this⟩,HV9.out⟩,by simp [intOf]; omega⟩
    ·refine stepAt_of _ rfl rfl (fun K hK => ?_)
     go_simp
     have KP:=Lib.hid (show Blk (wx1.alloc (.cells #[.string q.dof,.string q.name,.int .i64 q.num,.slice q.at_ q.args.length q.cap] 28)) wx1.heap.size #[.string q.dof,.string q.name,.int .i64 q.num,.slice q.at_ q.args.length q.cap] 28 from Blk.new wx1 _ _)
     have HS2:=Lib.hid (show Below wx1.heap.size wx1 (wx1.alloc (.cells #[.string q.dof,.string q.name,.int .i64 q.num,.slice q.at_ q.args.length q.cap] 28)) from (Below.refl _ _).alloc (Nat.le_refl _) _)
     have RO:=Lib.hid (RO.out.keep HS2.out)
     have HZ2:=Lib.hid (HZ1.out.trans (HS2.out.mono HZ1.out.size))
     refine hK _ _ ⟨HSF.out _ HZ2.out, ?_⟩
     clear hK K
     generalize (wx1.alloc (.cells #[.string q.dof,.string q.name,.int .i64 q.num,.slice q.at_ q.args.length q.cap] 28)) = wx2 at KP HS2 HZ2 RO ⊢
     refine wpOrd_one ?_
     ·refine stepAt_of _ rfl rfl (fun K hK => ?_)
      go_simp
      have KT:=Lib.hid (show Blk (wx2.alloc (.cells #[.string t.dof,.string t.name,.slice t.at_ t.args.length t.cap] 25)) wx2.heap.size #[.string t.dof,.string t.name,.slice t.at_ t.args.length t.cap] 25 from Blk.new wx2 _ _)
      have HS3:=Lib.hid (show Below wx2.heap.size wx2 (wx2.alloc (.cells #[.string t.dof,.string t.name,.slice t.at_ t.args.length t.cap] 25)) from (Below.refl _ _).alloc (Nat.le_refl _) _)
      have RO:=Lib.hid (RO.out.keep HS3.out)
      have KP:=Lib.hid (KP.out.below HS3.out KP.out.lt)
      have HZ3:=Lib.hid (HZ2.out.trans (HS3.out.mono HZ2.out.size))
      refine hK _ _ ⟨HSF.out _ HZ3.out, ?_⟩
      clear hK K
      generalize (wx2.alloc (.cells #[.string t.dof,.string t.name,.slice t.at_ t.args.length t.cap] 25)) = wx3 at KT HS3 HZ3 RO KP ⊢
      refine wpOrd_one ?_
      refine stepAt_of _ rfl rfl (fun K hK => ?_)
      go_simp
      refine Calls.mono (HSEEK.out _ _ _ _ _ (HBW.out.trans (HZ3.out.mono HBW.out.size)) (HVW.out.next HZ3.out) KT.out KP.out RO.out) ?_
      rintro e wz ⟨hsz,vz,rfl⟩
      have HSZ:=Lib.hid hsz
      have HPZ:=Lib.hid (show P7 w.heap.size wr.heap.size t q wz from by
       have k1:=hsz.blk (HKW.out.below HZ3.out HKW.out.lt) (by decide)
       have k2:=hsz.blk (HQW.out.below HZ3.out HQW.out.lt) (by decide)
       exact ⟨k1.cell 0,k1.cell 1,k1.cell 2,k2.cell 0,k2.cell 1,k2.cell 2,k2.cell 3⟩)
      refine hK _ _ ⟨HPZ.out, ?_⟩
      clear hK K hsz
      refine wpOrd_read _ ?_ rfl (by rfl) (fun W hW => ?_) ?_
      rotate_left
      ·unfold P7 at hW
       go_simp
       try with_reducible rfl
      simp only [Act.put,List.setIfInBounds_toArray,List.set_cons_zero,List.set_cons_succ]
      refine wpOrd_read _ ?_ rfl (by rfl) (fun W hW => ?_) ?_
      rotate_left
      ·unfold P7 at hW
       go_simp
       try with_reducible rfl
      simp only [Act.put,List.setIfInBounds_toArray,List.set_cons_zero,List.set_cons_succ]
      refine wpOrd_read _ ?_ rfl (by rfl) (fun W hW => ?_) ?_
      rotate_left
      ·unfold P7 at hW
       go_simp
       try with_reducible rfl
      simp only [Act.put,List.setIfInBounds_toArray,List.set_cons_zero,List.set_cons_succ]
      iterate 2
       refine wpOrd_one ?_
       refine stepAt_of _ rfl rfl (fun K hK => ?_)
       go_simp
       refine hK _ _ ⟨HPZ.out, ?_⟩
       clear hK K
      refine wpOrd_done ?_
      refine NoPanic.normal ?_
      have HBZ:=Lib.hid ((HBW.out.trans (HZ3.out.mono HBW.out.size)).trans (HSZ.out.below (by have:=HBW.out.size; have:=HZ3.out.size; omega) HZB.out))
      have HKZ:=Lib.hid (HSZ.out.blk (HKW.out.below HZ3.out HKW.out.lt) (by decide))
      have HOZ:=Lib.hid (HSZ.out.own (row_stays HOW.out fun i hi => HZ3.out.block i (HOW.out.lt i hi).2) (by decide))
      have HVZ:=Lib.hid ((HVW.out.next HZ3.out).sm HSZ.out)
      have hzs:=HKZ.out.lt
      cases z
      case true =>
       go_wp2_with fail
       exact ⟨⟨k + 1,by go_num,by omega,HBZ.out,HKZ.out,Lib.hid ⟨A',c',by rw [HU1.out (by simp)],by rw [HU1.out (by simp)]; exact HOZ.out⟩,HVZ.out⟩,by simp [intOf]; omega⟩
      case false =>
       go_wp2_with (at_builtin; go_must (refine wpList_append_own_at _ rfl (.tmp 47) (.tmp 49) 41 rfl (w.heap.size + 1) 3 i0 _ 1 8 Tryz.underlying41 hi hz0 hz1 hz2 rfl (by decide) (.slice A' (idleL l t ps k).length c') (idleL l t ps k).length (idleL l t ps k) rfl (HOZ.out.alloc _) ⟨wz.heap.size,0,none⟩ 1 1 [.int .i64 k] rfl rfl (World.news_of_block (heap_alloc_new wz _)) (by simp [Value.oneCell']) (by have:=HUL.out; unfold maxLen; omega) (by have:=HUL.out; omega) (by first | omega | (simp; omega)) ?_))
       intro v' w9 hown hgrow _ _
       obtain ⟨A5,c5,rfl,-⟩:=row_slice hown
       have hb9 : Below w.heap.size w w9:=(HBZ.out.alloc HBZ.out.size _).grown hgrow (by simp; omega) (fun i hi => by have:=(HOZ.out.lt i hi).1; omega)
       have hk9 : Blk w9 w.heap.size _ _:=(hgrow.block _ (by simp; omega) (fun e => by have:=(HOZ.out.lt _ e.symm).1; omega)).trans (HKZ.out.alloc _)
       have HB9:=Lib.hid hb9
       have HK9:=Lib.hid hk9
       have HO9:=Lib.hid hown
       have HV9:=Lib.hid (show VEnv Z l L w9 from ⟨SkAt.grown (HVZ.out.sk.next ((Below.refl _ _).alloc (Nat.le_refl _) (.cells #[.int .i64 k] 3))) (HOZ.out.alloc _) hgrow,fun d hd => ⟨(H.out.next HB9.out).dts.each d hd,H.out.dlen d hd⟩⟩)
       clear hown hgrow hb9 hk9
       go_wp2_with fail
       exact ⟨⟨k + 1,by go_num,by omega,HB9.out,HK9.out,Lib.hid ⟨A5,c5,by rw [HU2.out (by simp)]; simp,by rw [HU2.out (by simp)]; have:=HO9.out; simpa using this⟩,HV9.out⟩,by simp [intOf]; omega⟩
   ·refine stepAt_of _ rfl rfl (fun K hK => ?_)
    go_simp
    have KP:=Lib.hid (show Blk ((w0.alloc (.cells #[.string q.dof,.string q.name,.int .i64 q.num,.slice q.at_ q.args.length q.cap] 28)).drew) w0.heap.size #[.string q.dof,.string q.name,.int .i64 q.num,.slice q.at_ q.args.length q.cap] 28 from Blk.new w0 _ _)
    have HS1:=Lib.hid (show Below w0.heap.size w0 ((w0.alloc (.cells #[.string q.dof,.string q.name,.int .i64 q.num,.slice q.at_ q.args.length q.cap] 28)).drew) from ((Below.refl _ _).alloc (Nat.le_refl _) _).drew)
    have HZ1:=Lib.hid (HZ0.out.trans (HS1.out.mono HZ0.out.size))
    refine hK _ _ ⟨HSF.out _ HZ1.out, ?_⟩
    clear hK K
    generalize ((w0.alloc (.cells #[.string q.dof,.string q.name,.int .i64 q.num,.slice q.at_ q.args.length q.cap] 28)).drew) = wx1 at KP HS1 HZ1 ⊢
    refine wpOrd_two ?_ ?_
    ·refine stepAt_of _ rfl rfl (fun K hK => ?_)
     go_simp
     have KT:=Lib.hid (show Blk (wx1.alloc (.cells #[.string t.dof,.string t.name,.slice t.at_ t.args.length t.cap] 25)) wx1.heap.size #[.string t.dof,.string t.name,.slice t.at_ t.args.length t.cap] 25 from Blk.new wx1 _ _)
     have HS2:=Lib.hid (show Below wx1.heap.size wx1 (wx1.alloc (.cells #[.string t.dof,.string t.name,.slice t.at_ t.args.length t.cap] 25)) from (Below.refl _ _).alloc (Nat.le_refl _) _)
     have KP:=Lib.hid (KP.out.below HS2.out KP.out.lt)
     have HZ2:=Lib.hid (HZ1.out.trans (HS2.out.mono HZ1.out.size))
     refine hK _ _ ⟨HSF.out _ HZ2.out, ?_⟩
     clear hK K
     generalize (wx1.alloc (.cells #[.string t.dof,.string t.name,.slice t.at_ t.args.length t.cap] 25)) = wx2 at KT HS2 HZ2 KP ⊢
     refine wpOrd_one ?_
     ·refine stepAt_of _ rfl rfl (fun K hK => ?_)
      go_simp
      have HD:=Lib.hid (HBW.out.trans (HZ2.out.mono HBW.out.size))
      refine Calls.mono (HROWS.out _ HD.out) ?_
      rintro e wx3 ⟨hb9,v9,rfl,hro⟩
      obtain ⟨rs9,A9,c9,hr1,rfl,hr2,hr3⟩:=hro
      have RO : Hid (RowsO w.heap.size wx3 (.slice A9 k c9) (ps.take k) k):=Lib.hid ⟨rs9,A9,c9,hr1,rfl,own_wide hr2 HD.out.size,hr3⟩
      have HS3:=Lib.hid (show Below wx2.heap.size wx2 wx3 from hb9)
      have KP:=Lib.hid (KP.out.below HS3.out KP.out.lt)
      have KT:=Lib.hid (KT.out.below HS3.out KT.out.lt)
      have HZ3:=Lib.hid (HZ2.out.trans (HS3.out.mono HZ2.out.size))
      refine hK _ _ ⟨HSF.out _ HZ3.out, ?_⟩
      clear hK K hb9 hr1 hr2 hr3
      refine wpOrd_one ?_
      refine stepAt_of _ rfl rfl (fun K hK => ?_)
      go_simp
      refine Calls.mono (HSEEK.out _ _ _ _ _ (HBW.out.trans (HZ3.out.mono HBW.out.size)) (HVW.out.next HZ3.out) KT.out KP.out RO.out) ?_
      rintro e wz ⟨hsz,vz,rfl⟩
      have HSZ:=Lib.hid hsz
      have HPZ:=Lib.hid (show P7 w.heap.size wr.heap.size t q wz from by
       have k1:=hsz.blk (HKW.out.below HZ3.out HKW.out.lt) (by decide)
       have k2:=hsz.blk (HQW.out.below HZ3.out HQW.out.lt) (by decide)
       exact ⟨k1.cell 0,k1.cell 1,k1.cell 2,k2.cell 0,k2.cell 1,k2.cell 2,k2.cell 3⟩)
      refine hK _ _ ⟨HPZ.out, ?_⟩
      clear hK K hsz
      refine wpOrd_read _ ?_ rfl (by rfl) (fun W hW => ?_) ?_
      rotate_left
      ·unfold P7 at hW
       go_simp
       try with_reducible rfl
      simp only [Act.put,List.setIfInBounds_toArray,List.set_cons_zero,List.set_cons_succ]
      refine wpOrd_read _ ?_ rfl (by rfl) (fun W hW => ?_) ?_
      rotate_left
      ·unfold P7 at hW
       go_simp
       try with_reducible rfl
      simp only [Act.put,List.setIfInBounds_toArray,List.set_cons_zero,List.set_cons_succ]
      refine wpOrd_read _ ?_ rfl (by rfl) (fun W hW => ?_) ?_
      rotate_left
      ·unfold P7 at hW
       go_simp
       try with_reducible rfl
      simp only [Act.put,List.setIfInBounds_toArray,List.set_cons_zero,List.set_cons_succ]
      iterate 2
       refine wpOrd_one ?_
       refine stepAt_of _ rfl rfl (fun K hK => ?_)
       go_simp
       refine hK _ _ ⟨HPZ.out, ?_⟩
       clear hK K
      refine wpOrd_done ?_
      refine NoPanic.normal ?_
      have HBZ:=Lib.hid ((HBW.out.trans (HZ3.out.mono HBW.out.size)).trans (HSZ.out.below (by have:=HBW.out.size; have:=HZ3.out.size; omega) HZB.out))
      have HKZ:=Lib.hid (HSZ.out.blk (HKW.out.below HZ3.out HKW.out.lt) (by decide))
      have HOZ:=Lib.hid (HSZ.out.own (row_stays HOW.out fun i hi => HZ3.out.block i (HOW.out.lt i hi).2) (by decide))
      have HVZ:=Lib.hid ((HVW.out.next HZ3.out).sm HSZ.out)
      have hzs:=HKZ.out.lt
      cases z
      case true =>
       go_wp2_with fail
       exact ⟨⟨k + 1,by go_num,by omega,HBZ.out,HKZ.out,Lib.hid ⟨A',c',by rw [HU1.out (by simp)],by rw [HU1.out (by simp)]; exact HOZ.out⟩,HVZ.out⟩,by simp [intOf]; omega⟩
      case false =>
       go_wp2_with (at_builtin; go_must (refine wpList_append_own_at _ rfl (.tmp 47) (.tmp 49) 41 rfl (w.heap.size + 1) 3 i0 _ 1 8 Tryz.underlying41 hi hz0 hz1 hz2 rfl (by decide) (.slice A' (idleL l t ps k).length c') (idleL l t ps k).length (idleL l t ps k) rfl (HOZ.out.alloc _) ⟨wz.heap.size,0,none⟩ 1 1 [.int .i64 k] rfl rfl (World.news_of_block (heap_alloc_new wz _)) (by simp [Value.oneCell']) (by have:=HUL.out; unfold maxLen; omega) (by have:=HUL.out; omega) (by first | omega | (simp; omega)) ?_))
       intro v' w9 hown hgrow _ _
       obtain ⟨A5,c5,rfl,-⟩:=row_slice hown
       have hb9 : Below w.heap.size w w9:=(HBZ.out.alloc HBZ.out.size _).grown hgrow (by simp; omega) (fun i hi => by have:=(HOZ.out.lt i hi).1; omega)
       have hk9 : Blk w9 w.heap.size _ _:=(hgrow.block _ (by simp; omega) (fun e => by have:=(HOZ.out.lt _ e.symm).1; omega)).trans (HKZ.out.alloc _)
       have HB9:=Lib.hid hb9
       have HK9:=Lib.hid hk9
       have HO9:=Lib.hid hown
       have HV9:=Lib.hid (show VEnv Z l L w9 from ⟨SkAt.grown (HVZ.out.sk.next ((Below.refl _ _).alloc (Nat.le_refl _) (.cells #[.int .i64 k] 3))) (HOZ.out.alloc _) hgrow,fun d hd => ⟨(H.out.next HB9.out).dts.each d hd,H.out.dlen d hd⟩⟩)
       clear hown hgrow hb9 hk9
       go_wp2_with fail
       exact ⟨⟨k + 1,by go_num,by omega,HB9.out,HK9.out,Lib.hid ⟨A5,c5,by rw [HU2.out (by simp)]; simp,by rw [HU2.out (by simp)]; have:=HO9.out; simpa using this⟩,HV9.out⟩,by simp [intOf]; omega⟩
    ·refine stepAt_of _ rfl rfl (fun K hK => ?_)
     go_simp
     have HD:=Lib.hid (HBW.out.trans (HZ1.out.mono HBW.out.size))
     refine Calls.mono (HROWS.out _ HD.out) ?_
     rintro e wx2 ⟨hb9,v9,rfl,hro⟩
     obtain ⟨rs9,A9,c9,hr1,rfl,hr2,hr3⟩:=hro
     have RO : Hid (RowsO w.heap.size wx2 (.slice A9 k c9) (ps.take k) k):=Lib.hid ⟨rs9,A9,c9,hr1,rfl,own_wide hr2 HD.out.size,hr3⟩
     have HS2:=Lib.hid (show Below wx1.heap.size wx1 wx2 from hb9)
     have KP:=Lib.hid (KP.out.below HS2.out KP.out.lt)
     have HZ2:=Lib.hid (HZ1.out.trans (HS2.out.mono HZ1.out.size))
     refine hK _ _ ⟨HSF.out _ HZ2.out, ?_⟩
     clear hK K hb9 hr1 hr2 hr3
     refine wpOrd_one ?_
     ·refine stepAt_of _ rfl rfl (fun K hK => ?_)
      go_simp
      have KT:=Lib.hid (show Blk (wx2.alloc (.cells #[.string t.dof,.string t.name,.slice t.at_ t.args.length t.cap] 25)) wx2.heap.size #[.string t.dof,.string t.name,.slice t.at_ t.args.length t.cap] 25 from Blk.new wx2 _ _)
      have HS3:=Lib.hid (show Below wx2.heap.size wx2 (wx2.alloc (.cells #[.string t.dof,.string t.name,.slice t.at_ t.args.length t.cap] 25)) from (Below.refl _ _).alloc (Nat.le_refl _) _)
      have KP:=Lib.hid (KP.out.below HS3.out KP.out.lt)
      have RO:=Lib.hid (RO.out.keep HS3.out)
      have HZ3:=Lib.hid (HZ2.out.trans (HS3.out.mono HZ2.out.size))
      refine hK _ _ ⟨HSF.out _ HZ3.out, ?_⟩
      clear hK K
      generalize (wx2.alloc (.cells #[.string t.dof,.string t.name,.slice t.at_ t.args.length t.cap] 25)) = wx3 at KT HS3 HZ3 KP RO ⊢
      refine wpOrd_one ?_
      refine stepAt_of _ rfl rfl (fun K hK => ?_)
      go_simp
      refine Calls.mono (HSEEK.out _ _ _ _ _ (HBW.out.trans (HZ3.out.mono HBW.out.size)) (HVW.out.next HZ3.out) KT.out KP.out RO.out) ?_
      rintro e wz ⟨hsz,vz,rfl⟩
      have HSZ:=Lib.hid hsz
      have HPZ:=Lib.hid (show P7 w.heap.size wr.heap.size t q wz from by
       have k1:=hsz.blk (HKW.out.below HZ3.out HKW.out.lt) (by decide)
       have k2:=hsz.blk (HQW.out.below HZ3.out HQW.out.lt) (by decide)
       exact ⟨k1.cell 0,k1.cell 1,k1.cell 2,k2.cell 0,k2.cell 1,k2.cell 2,k2.cell 3⟩)
      refine hK _ _ ⟨HPZ.out, ?_⟩
      clear hK K hsz
      refine wpOrd_read _ ?_ rfl (by rfl) (fun W hW => ?_) ?_
      rotate_left
      ·unfold P7 at hW
       go_simp
       try with_reducible rfl
      simp only [Act.put,List.setIfInBounds_toArray,List.set_cons_zero,List.set_cons_succ]
      refine wpOrd_read _ ?_ rfl (by rfl) (fun W hW => ?_) ?_
      rotate_left
      ·unfold P7 at hW
       go_simp
       try with_reducible rfl
      simp only [Act.put,List.setIfInBounds_toArray,List.set_cons_zero,List.set_cons_succ]
      refine wpOrd_read _ ?_ rfl (by rfl) (fun W hW => ?_) ?_
      rotate_left
      ·unfold P7 at hW
       go_simp
       try with_reducible rfl
      simp only [Act.put,List.setIfInBounds_toArray,List.set_cons_zero,List.set_cons_succ]
      iterate 2
       refine wpOrd_one ?_
       refine stepAt_of _ rfl rfl (fun K hK => ?_)
       go_simp
       refine hK _ _ ⟨HPZ.out, ?_⟩
       clear hK K
      refine wpOrd_done ?_
      refine NoPanic.normal ?_
      have HBZ:=Lib.hid ((HBW.out.trans (HZ3.out.mono HBW.out.size)).trans (HSZ.out.below (by have:=HBW.out.size; have:=HZ3.out.size; omega) HZB.out))
      have HKZ:=Lib.hid (HSZ.out.blk (HKW.out.below HZ3.out HKW.out.lt) (by decide))
      have HOZ:=Lib.hid (HSZ.out.own (row_stays HOW.out fun i hi => HZ3.out.block i (HOW.out.lt i hi).2) (by decide))
      have HVZ:=Lib.hid ((HVW.out.next HZ3.out).sm HSZ.out)
      have hzs:=HKZ.out.lt
      cases z
      case true =>
       go_wp2_with fail
       exact ⟨⟨k + 1,by go_num,by omega,HBZ.out,HKZ.out,Lib.hid ⟨A',c',by rw [HU1.out (by simp)],by rw [HU1.out (by simp)]; exact HOZ.out⟩,HVZ.out⟩,by simp [intOf]; omega⟩
      case false =>
       go_wp2_with (at_builtin; go_must (refine wpList_append_own_at _ rfl (.tmp 47) (.tmp 49) 41 rfl (w.heap.size + 1) 3 i0 _ 1 8 Tryz.underlying41 hi hz0 hz1 hz2 rfl (by decide) (.slice A' (idleL l t ps k).length c') (idleL l t ps k).length (idleL l t ps k) rfl (HOZ.out.alloc _) ⟨wz.heap.size,0,none⟩ 1 1 [.int .i64 k] rfl rfl (World.news_of_block (heap_alloc_new wz _)) (by simp [Value.oneCell']) (by have:=HUL.out; unfold maxLen; omega) (by have:=HUL.out; omega) (by first | omega | (simp; omega)) ?_))
       intro v' w9 hown hgrow _ _
       obtain ⟨A5,c5,rfl,-⟩:=row_slice hown
       have hb9 : Below w.heap.size w w9:=(HBZ.out.alloc HBZ.out.size _).grown hgrow (by simp; omega) (fun i hi => by have:=(HOZ.out.lt i hi).1; omega)
       have hk9 : Blk w9 w.heap.size _ _:=(hgrow.block _ (by simp; omega) (fun e => by have:=(HOZ.out.lt _ e.symm).1; omega)).trans (HKZ.out.alloc _)
       have HB9:=Lib.hid hb9
       have HK9:=Lib.hid hk9
       have HO9:=Lib.hid hown
       have HV9:=Lib.hid (show VEnv Z l L w9 from ⟨SkAt.grown (HVZ.out.sk.next ((Below.refl _ _).alloc (Nat.le_refl _) (.cells #[.int .i64 k] 3))) (HOZ.out.alloc _) hgrow,fun d hd => ⟨(H.out.next HB9.out).dts.each d hd,H.out.dlen d hd⟩⟩)
       clear hown hgrow hb9 hk9
       go_wp2_with fail
       exact ⟨⟨k + 1,by go_num,by omega,HB9.out,HK9.out,Lib.hid ⟨A5,c5,by rw [HU2.out (by simp)]; simp,by rw [HU2.out (by simp)]; have:=HO9.out; simpa using this⟩,HV9.out⟩,by simp [intOf]; omega⟩
  ·have hk2 : k = ps.length:=by omega
   subst hk2
   go_wp2_with fail
   exact bodyPost_ret (by simp [results,Tryz.results18,go_sem]) rfl ⟨HB.out,.inl ⟨HZERO.out,_,rfl,A',c',rfl,own_wide HOWN.out (by omega)⟩⟩
end Go.Proofs.YtjeggkfgdhepaaaGreatDoor

namespace Go.Proofs.YtjeggkfgdhepaaaGreatDoor
open Go.RowKit
open Go.Proofs
theorem parts_in {B : Nat} {w : World} {A : Option Addr} {l : List Dt} (hd : DtsIn B w A l) {t : Ty} (ht : t.In B w) (d s : ByteArray) : ∀ u ∈ partsD l t d s,u.In B w:=by
 have hta : ∀ u ∈ t.args,u.In B w:=by
  obtain ⟨td,tn,ta,tc,ts⟩:=t
  exact (Ty.In_mk.1 ht).2.2.2.2.2
 intro u hu
 unfold partsD at hu
 split at hu
 ·exact hta u hu
 ·split at hu
  ·rcases List.mem_append.1 hu with h | h
   ·exact hta u (List.mem_of_mem_take h)
   ·simp only [List.mem_singleton] at h
    subst h
    exact ht
  ·split at hu
   ·split at hu
    ·rename_i c hc
     simp only [List.mem_singleton] at hu
     subst hu
     obtain ⟨d0,hd0,-,hcd,-⟩:=consOf_mem (List.mem_of_find?_eq_some hc)
     exact ((hd.each d0 hd0).2.2.2.2 c hcd).2
    ·cases hu
   ·cases hu
def STP (bt : Nat) (td tn : ByteArray) (b1 o1 n tc : Nat) (t0 : Ty) (W : World) : Prop:=
 W.cell? ⟨bt,0,none⟩ = some (.string td) ∧ W.cell? ⟨bt,1,none⟩ = some (.string tn) ∧ W.cell? ⟨bt,2,none⟩ = some (.slice (some ⟨b1,o1,none⟩) n tc) ∧ bt < W.heap.size ∧ b1 < W.heap.size ∧
 W.cell? ⟨b1,o1,none⟩ = some (.string t0.dof) ∧ W.cell? ⟨b1,o1 + 1,none⟩ = some (.string t0.name) ∧ W.cell? ⟨b1,o1 + 2,none⟩ = some (.slice t0.at_ t0.args.length t0.cap)
def PartsP (pd : List Ty) (w : World) (e : Ending) (w' : World) : Prop:=Below w.heap.size w w' ∧ ∃ (A : Option Addr) (c : Nat),e = .returned (.slice A pd.length c) ∧ RowAt w'.heap.size w' 3 A (pd.map Ty.cells) ∧ (A = none → c = 0) ∧ pd.length ≤ c
set_option maxRecDepth 100000 in
set_option maxHeartbeats 8000000 in
theorem rparts_any (A : Option Addr) (l : List Dt) (c : Nat) (t : Ty) (d s : ByteArray) (n : Int) (Ap : Option Addr) (cp : Nat) (ps : List Pt) (w : World) (hd : DtsIn w.heap.size w A l) (ht : t.In w.heap.size w) (hone : (d.toList == [99,111,110,115]) = true → t.args.length = 1) (hs : s.size ≤ 1099511627776) :
  Calls Tryz.prog 51 #[.slice A l.length c,t.val,(Pt.mk d s n Ap cp ps).val] w (PartsP (partsD l t d s) w):=by
 obtain ⟨td,tn,ta,tc,ts⟩:=t
 obtain ⟨-,-,-,htcap,htrow,htall⟩:=Ty.In_mk.1 ht
 have HTC:=Lib.hid htcap
 have HD:=Lib.hid hd
 have HT:=Lib.hid ht
 have HTR:=Lib.hid htrow
 have HB0:=Lib.hid (((Below.refl w.heap.size w).alloc (Nat.le_refl _) (.cells #[.string td,.string tn,.slice ta ts.length tc] 25)).alloc (by simp) (.cells #[.string d,.string s,.int .i64 n,.slice Ap ps.length cp] 28))
 have K1:=Lib.hid ((Blk.new w #[.string td,.string tn,.slice ta ts.length tc] 25).alloc (.cells #[.string d,.string s,.int .i64 n,.slice Ap ps.length cp] 28))
 have K2:=Lib.hid (Blk.new' (w.alloc (.cells #[.string td,.string tn,.slice ta ts.length tc] 25)) #[.string d,.string s,.int .i64 n,.slice Ap ps.length cp] 28 (w.heap.size + 1) (by simp))
 have HPT:=Lib.hid (show partsD l (.mk td tn ta tc ts) d s = if isDo [112,97,105,114] d then ts else if isDo [99,111,110,115] d then ts.take 1 ++ [.mk td tn ta tc ts] else if isDo [99,111,110] d then (match (consOf l tn).find? (fun c => c.name.toList == s.toList && c.has) with | some c => [c.ty] | none => []) else [] from rfl)
 generalize partsD l (.mk td tn ta tc ts) d s = pd at HPT ⊢
 obtain ⟨tp,hp⟩ : ∃ x,(d.toList == [112,97,105,114]) = x:=⟨_,rfl⟩
 obtain ⟨tcs,hcs⟩ : ∃ x,(d.toList == [99,111,110,115]) = x:=⟨_,rfl⟩
 obtain ⟨tcn,hcn⟩ : ∃ x,(d.toList == [99,111,110]) = x:=⟨_,rfl⟩
 have HPD:=Lib.hid HPT.out
 unfold isDo at HPD
 rw [hp,hcs,hcn] at HPD
 unfold Ty.val Pt.val
 simp only [Ty.dof,Ty.name,Ty.at_,Ty.cap,Ty.args,Pt.dof,Pt.name,Pt.num,Pt.at_,Pt.cap,Pt.args] at hone ⊢
 cases tp
 case true =>
  have hpd:=HPD.out
  simp only [if_true] at hpd
  subst hpd
  clear hd ht htrow htall htcap HPD HPT
  go_enter Tryz.func51,Tryz.ntmps51
  go_wp2_with fail
  exact bodyPost_ret (v:=.slice ta pd.length tc) (by simp [results,Tryz.results51,go_sem]) rfl ⟨HB0.out,ta,tc,rfl,(HTR.out.keep HB0.out).wider HB0.out.size,HTC.out.2,HTC.out.1⟩
 cases tcs
 case true =>
  obtain ⟨t0,rfl⟩:=one_of (hone hcs)
  have hpd:=HPD.out
  simp only [Bool.false_eq_true,if_false,if_true,List.take_succ_cons,List.take_zero,List.singleton_append] at hpd
  subst hpd
  obtain ⟨b1,o1,rfl,hb1,hc1⟩:=one_ty htrow
  have HC1:=Lib.hid hc1
  simp only [List.length_cons,List.length_nil,Nat.zero_add] at HB0 K1 K2 ⊢
  have hbox : ∀ W,Below ((w.alloc (.cells #[.string td,.string tn,.slice (some ⟨b1,o1,none⟩) 1 tc] 25)).alloc (.cells #[.string d,.string s,.int .i64 n,.slice Ap ps.length cp] 28)).heap.size ((w.alloc (.cells #[.string td,.string tn,.slice (some ⟨b1,o1,none⟩) 1 tc] 25)).alloc (.cells #[.string d,.string s,.int .i64 n,.slice Ap ps.length cp] 28)) W → STP w.heap.size td tn b1 o1 1 tc t0 W:=fun W hW => by
   have k1:=K1.out.below hW K1.out.lt
   have hb:=HB0.out.trans (hW.mono HB0.out.size)
   obtain ⟨q0,q1,q2⟩:=HC1.out W hb
   exact ⟨k1.cell 0,k1.cell 1,k1.cell 2,k1.lt,by have:=hb.size; omega,q0,q1,q2⟩
  have HBOX:=Lib.hid hbox
  clear hd ht htrow htall HPD HPT hc1 hbox htcap
  go_enter Tryz.func51,Tryz.ntmps51
  go_wp2_with fail
  generalize (w.alloc (.cells #[.string td,.string tn,.slice (some ⟨b1,o1,none⟩) 1 tc] 25)).alloc (.cells #[.string d,.string s,.int .i64 n,.slice Ap ps.length cp] 28) = w0 at HB0 K1 K2 HBOX ⊢
  refine region_mix (STP w.heap.size td tn b1 o1 1 tc t0) [(0,true),(1,true),(2,true),(3,true),(4,true),(5,false),(6,false)] 5 (by kernel_rfl) (by kernel_rfl) (HBOX.out _ (Below.refl _ _).drew) ?_
  simp only [pickM,List.filterMap_cons,List.getElem?_cons_zero,List.getElem?_cons_succ,List.filterMap_nil,Option.map_some]
  iterate 5
   refine wpMix_read ?_ (by rfl) (fun W hW => ?_) ?_
   rotate_left
   ·unfold STP at hW
    go_simp
    try with_reducible rfl
   simp only [Act.put,List.setIfInBounds_toArray,List.set_cons_zero,List.set_cons_succ]
  have HBG:=Lib.hid (((Below.refl w0.heap.size w0).alloc (Nat.le_refl _) (.cells #[.string t0.dof,.string t0.name,.slice t0.at_ t0.args.length t0.cap,.string td,.string tn,.slice (some ⟨b1,o1,none⟩) 1 tc] 25)).drew)
  have HKG:=Lib.hid ((Blk.new w0 #[.string t0.dof,.string t0.name,.slice t0.at_ t0.args.length t0.cap,.string td,.string tn,.slice (some ⟨b1,o1,none⟩) 1 tc] 25).drewN 1)
  refine wpMix_step rfl (fun K hK => ?_)
  go_simp
  refine hK _ _ (fun h => absurd h (by decide)) ?_
  clear hK K
  refine wpMix_step rfl (fun K hK => ?_)
  go_simp
  refine hK _ _ (fun h => absurd h (by decide)) ?_
  clear hK K
  refine wpMix_nil ?_
  refine NoPanic.normal ?_
  go_wp2_with fail
  exact bodyPost_ret (v:=.slice (some ⟨w0.heap.size,0,none⟩) 2 2) (by simp [results,Tryz.results51,go_sem]) rfl ⟨HB0.out.trans (HBG.out.mono HB0.out.size),some ⟨w0.heap.size,0,none⟩,2,rfl,row_tys (t0:=t0) (t1:=.mk td tn (some ⟨b1,o1,none⟩) tc [t0]) HKG.out HKG.out.lt,fun h => (by cases h),Nat.le_refl _⟩
 cases tcn
 case false =>
  have hpd:=HPD.out
  simp only [Bool.false_eq_true,if_false] at hpd
  subst hpd
  clear hd ht htrow htall htcap HPD HPT
  go_enter Tryz.func51,Tryz.ntmps51
  go_wp2_with fail
  exact bodyPost_ret (v:=.slice none 0 0) (by simp [results,Tryz.results51,go_sem]) rfl ⟨HB0.out,none,0,rfl,fun h => (by simp at h),fun _ => rfl,Nat.le_refl _⟩
 case true =>
  have hpd:=HPD.out
  simp only [Bool.false_eq_true,if_false,if_true] at hpd
  have HPK:=Lib.hid hpd
  obtain ⟨nm,A9,c9,hform,hrow9,hx9,hl9⟩:=dtFound_cons hd tn
  have HR9:=Lib.hid hrow9
  have HX9:=Lib.hid hx9
  have HFORM:=Lib.hid hform
  have HCD:=Lib.hid (fun (W : World) (hW : Below w.heap.size w W) => datatype_any A l c tn W (HD.out.next hW))
  generalize consOf l tn = cs at hform hrow9 hx9 hl9 HR9 HX9 HFORM HPK
  clear hd ht htrow htall htcap HPD HPT hpd hform hrow9 hx9
  go_enter Tryz.func51,Tryz.ntmps51
  go_wp2_with fail
  generalize (w.alloc (.cells #[.string td,.string tn,.slice ta ts.length tc] 25)).alloc (.cells #[.string d,.string s,.int .i64 n,.slice Ap ps.length cp] 28) = w0 at HB0 K1 K2 ⊢
  refine Calls.mono (HCD.out _ HB0.out) ?_
  rintro e w1 ⟨rfl,hb1⟩
  rw [HFORM.out]
  have HB1:=Lib.hid (HB0.out.trans (hb1.mono HB0.out.size))
  have K21:=Lib.hid (K2.out.below hb1 K2.out.lt)
  generalize (dtFound l tn).2 = fnd at *
  clear hb1
  go_wp2_with fail
  have HB2:=Lib.hid (HB1.out.alloc HB1.out.size (.cells #[.string nm,.slice A9 cs.length c9] 111))
  have K22:=Lib.hid (K21.out.alloc (.cells #[.string nm,.slice A9 cs.length c9] 111))
  generalize w1.alloc (.cells #[.string nm,.slice A9 cs.length c9] 111) = w2 at HB2 K22 ⊢
  go_loopw [37] (fun iv wr => ∃ k : Nat,iv = .int .i64 k ∧ k ≤ cs.length ∧ Hid (Below w2.heap.size w2 wr) ∧ Hid (∀ j x,j < k → cs[j]? = some x → (fun c : Cn => c.name.toList == s.toList && c.has) x = false)) (fun iv _ => cs.length - (intOf iv).toNat)
  case atStart => exact ⟨0,rfl,Nat.zero_le _,Below.refl _ _,Lib.hid fun j x hj => absurd hj (Nat.not_lt_zero _)⟩
  case round =>
   obtain ⟨k,rfl,hk,HC,HN⟩:=hrel
   have HBW:=Lib.hid (HB2.out.trans (HC.out.mono HB2.out.size))
   by_cases hlt : k < cs.length
   ·obtain ⟨x,b5,off5,hq5,hm5,hat5,hb5,z0,z1,z2,z3,z4⟩:=Cn.arg_at HR9.out HBW.out hlt
    have HQ5:=Lib.hid hq5
    rw [hat5]
    have hnamel:=(HX9.out x hm5).1.1
    obtain ⟨v0,v1,v2,v3⟩:=(K22.out.below HC.out K22.out.lt).four
    have vl:=(K22.out.below HC.out K22.out.lt).lt
    have HBC:=Lib.hid (HC.out.alloc HC.out.size (.cells #[.string x.name,.bool x.has,.string x.ty.dof,.string x.ty.name,.slice x.ty.at_ x.ty.args.length x.ty.cap] 117))
    clear hq5
    obtain ⟨tnm,hnm⟩ : ∃ y,(x.name.toList == s.toList) = y:=⟨_,rfl⟩
    obtain ⟨hh,hhs⟩ : ∃ y,x.has = y:=⟨_,rfl⟩
    have HNM:=Lib.hid (And.intro hnm hhs)
    rw [hhs] at z1 HBC
    cases tnm
    case false =>
     go_wp2_with fail
     exact ⟨⟨k + 1,by go_num,by omega,HBC.out,Lib.hid (not_before HN.out HQ5.out (by simp [HNM.out.1]))⟩,by simp [intOf]; omega⟩
    cases hh
    case false =>
     go_wp2_with fail
     exact ⟨⟨k + 1,by go_num,by omega,HBC.out,Lib.hid (not_before HN.out HQ5.out (by simp [HNM.out.1,HNM.out.2]))⟩,by simp [intOf]; omega⟩
    have hpd2:=HPK.out
    rw [find_hit HQ5.out (by simp [HNM.out.1,HNM.out.2]) HN.out] at hpd2
    simp only at hpd2
    subst hpd2
    have HBE:=Lib.hid (HBC.out.alloc HBC.out.size (.cells #[.string x.ty.dof,.string x.ty.name,.slice x.ty.at_ x.ty.args.length x.ty.cap] 25))
    go_wp2_with fail
    exact bodyPost_ret (v:=.slice (some ⟨wr.heap.size + 1,0,none⟩) 1 1) (by simp [results,Tryz.results51,go_sem]) rfl ⟨HB2.out.trans (HBE.out.mono HB2.out.size),some ⟨wr.heap.size + 1,0,none⟩,1,rfl,row_ty1 (Blk.new' _ _ _ _ (by simp)) (by simp),fun h => (by cases h),Nat.le_refl _⟩
   ·have hk2 : k = cs.length:=by omega
    have hn:=HN.out
    rw [hk2] at hn
    have hpd2:=HPK.out
    rw [find_miss hn] at hpd2
    simp only at hpd2
    subst hpd2
    clear hn hk2
    go_wp2_with fail
    exact bodyPost_ret (v:=.slice none 0 0) (by simp [results,Tryz.results51,go_sem]) rfl ⟨HBW.out,none,0,rfl,fun h => (by simp at h),fun _ => rfl,Nat.le_refl _⟩
end Go.Proofs.YtjeggkfgdhepaaaGreatDoor

namespace Go.Proofs.YtjeggkfgdhepaaaGreatDoor
open Go.RowKit
open Go.Proofs
open Go.Maps
theorem wrap_small {x : Int} (h0 : 0 ≤ x) (h : x ≤ 2000000) : wrap64 x = x:=by unfold wrap64; omega
theorem pcount_pos (p : Pt) : 1 ≤ p.count:=by
 obtain ⟨d,s,n,a,c,l⟩:=p
 rw [Pt.count_mk]
 omega
theorem count_args (p : Pt) : p.count = 1 + (p.args.map Pt.count).sum:=by
 obtain ⟨d,s,n,a,c,l⟩:=p
 rw [Pt.count_mk]
 rfl
theorem count_len : ∀ l : List Pt,l.length ≤ (l.map Pt.count).sum
 | [] => Nat.le_refl _
 | p :: l => by
  have:=count_len l
  have:=pcount_pos p
  simp only [List.length_cons,List.map_cons,List.sum_cons]
  omega
theorem count_succ {l : List Pt} {k : Nat} {p : Pt} (h : l[k]? = some p) : ((l.take (k + 1)).map Pt.count).sum = ((l.take k).map Pt.count).sum + p.count:=by
 rw [List.take_add_one,h]
 simp
def cntL (l : List Pt) : Nat:=(l.map Pt.count).sum
def cntTo (l : List Pt) (k : Nat) : Nat:=cntL (l.take k)
theorem cntTo_succ {l : List Pt} {k : Nat} {p : Pt} (h : l[k]? = some p) : cntTo l (k + 1) = cntTo l k + p.count ∧ cntTo l k + p.count ≤ cntL l:=⟨count_succ h,count_take h⟩
theorem cntTo_all (l : List Pt) : cntTo l l.length = cntL l:=by unfold cntTo; rw [List.take_length]
theorem cntTo_zero (l : List Pt) : cntTo l 0 = 0:=by unfold cntTo cntL; simp
set_option maxRecDepth 100000 in
set_option maxHeartbeats 4000000 in
theorem rnodes_to : ∀ (m : Nat),∀ (l : List Pt) (A : Option Addr) (c : Nat) (w : World),cntL l ≤ m → m ≤ 1048576 → RowAt w.heap.size w 4 A (l.map Pt.cells) → (∀ p ∈ l,p.In w.heap.size w) →
  Calls Tryz.prog 79 #[.slice A l.length c] w fun e w' => e = .returned (.int .i64 (cntL l : Nat)) ∧ Below w.heap.size w w':=by
 intro m
 induction m using Nat.strongRecOn with
 | _ m ih =>
  intro l A c w hsum hm hrow hall
  have HR:=Lib.hid hrow
  have HA:=Lib.hid hall
  have HIH:=Lib.hid ih
  have hl1 : l.length ≤ 1048576:=Nat.le_trans (count_len l) (Nat.le_trans hsum hm)
  clear hrow hall ih
  go_enter Tryz.func79,Tryz.ntmps79
  go_wp2_with fail
  go_loopw [8,3] (fun iv nv wr => ∃ k : Nat,iv = .int .i64 k ∧ nv = .int .i64 (cntTo l k : Nat) ∧ k ≤ l.length ∧ Hid (Below w.heap.size w wr)) (fun iv _ _ => l.length - (intOf iv).toNat)
  case atStart => exact ⟨0,rfl,by rw [cntTo_zero]; rfl,Nat.zero_le _,Below.refl _ _⟩
  case round =>
   obtain ⟨k,rfl,rfl,hk,HB⟩:=hrel
   by_cases hlt : k < l.length
   ·obtain ⟨q,b0,off,hq,hmem,rfl,hb,x0,x1,x2,x3⟩:=Pt.arg_at HR.out HB.out hlt
    obtain ⟨hs1,hs2⟩:=cntTo_succ hq
    have hs3 : q.count = 1 + cntL q.args:=count_args q
    have HB1:=Lib.hid (HB.out.alloc HB.out.size (.cells #[.string q.dof,.string q.name,.int .i64 q.num,.slice q.at_ q.args.length q.cap] 28))
    have hqi:=HA.out q hmem
    have HPI:=Lib.hid (show RowAt w.heap.size w 4 q.at_ (q.args.map Pt.cells) ∧ ∀ p ∈ q.args,p.In w.heap.size w by
     obtain ⟨qd,qs,qn,qa,qc,ql⟩:=q
     obtain ⟨-,-,-,-,-,h6,h7⟩:=Pt.In_mk.1 hqi
     exact ⟨h6,h7⟩)
    have HC:=Lib.hid (fun (W : World) (hW : Below w.heap.size w W) => HIH.out (cntL q.args) (by omega) q.args q.at_ q.cap W (Nat.le_refl _) (by omega) ((HPI.out.1.keep hW).wider hW.size) (fun p hp => (HPI.out.2 p hp).next hW))
    clear hqi hq
    have HSM:=Lib.hid (Nat.le_trans hsum hm)
    clear hsum hm
    obtain ⟨s,hs⟩ : ∃ s,cntTo l k = s:=⟨_,rfl⟩
    obtain ⟨r,hr⟩ : ∃ r,cntL q.args = r:=⟨_,rfl⟩
    rw [hs] at hs1 hs2 ⊢
    rw [hr] at hs3 HC
    obtain ⟨qc,hqc⟩ : ∃ qc,q.count = qc:=⟨_,rfl⟩
    rw [hqc] at hs1 hs2 hs3
    have HS1:=Lib.hid hs1
    have hbb : s + qc ≤ 1048576:=Nat.le_trans hs2 HSM.out
    clear hs2 hqc hs hr hs1
    have hw1 : wrap64 (1 + (r : Int)) = (qc : Int):=by rw [wrap_small (by omega) (by omega)]; omega
    have hw2 : wrap64 ((s : Int) + (qc : Int)) = ((s + qc : Nat) : Int):=by rw [wrap_small (by omega) (by omega)]; omega
    have HW1:=Lib.hid hw1
    have HW2:=Lib.hid hw2
    clear hs3 hbb hw1 hw2
    go_wp2_with fail
    refine Calls.mono (HC.out _ HB1.out) ?_
    rintro e w2 ⟨rfl,hb2⟩
    have HB2:=Lib.hid (HB1.out.trans (hb2.mono HB1.out.size))
    clear hb2 x0 x1 x2 x3
    go_wp2_with fail
    exact ⟨⟨k + 1,by go_num,by rw [HW1.out,HW2.out,HS1.out],by omega,HB2.out⟩,by simp [intOf]; omega⟩
   ·have hk2 : k = l.length:=by omega
    subst hk2
    rw [cntTo_all]
    go_wp2_with fail
    go_ret
    exact ⟨rfl,HB.out⟩
end Go.Proofs.YtjeggkfgdhepaaaGreatDoor

namespace Go.Proofs.YtjeggkfgdhepaaaGreatDoor
open Go.RowKit
open Go.Proofs
open Go.Maps
theorem askedErr_ref {l : List Dt} {t : Ty} {ps : List Pt} (hc : (ps.map Pt.count).sum ≤ 1048576) : askedErr l t ps = if soundB l t = false ∨ 12 < ps.length then 40 else if (ps.all fun p => p.patB && p.isOf l t) = false then 40 else if 60 < (ps.map Pt.count).sum then 4 else 0:=by
 unfold askedErr
 rw [nodes_count hc]
 have hsw:=sound_world l t
 by_cases h1 : soundB l t = false ∨ 12 < ps.length
 ·rw [if_pos h1,if_neg]
  intro h
  rw [Bool.and_eq_true,Bool.and_eq_true,Bool.and_eq_true,decide_eq_true_eq] at h
  rcases h1 with h1 | h1
  ·rw [hsw,h.2.1,h.2.2.1] at h1
   cases h1
  ·omega
 ·rw [if_neg h1]
  simp only [not_or,Bool.not_eq_false,Nat.not_lt] at h1
  have hs:=h1.1
  rw [hsw,Bool.and_eq_true] at hs
  have hall : ps.all (fitB l t) = ps.all fun p => p.patB && p.isOf l t:=by
   rw [Bool.eq_iff_iff,List.all_eq_true,List.all_eq_true]
   have key : ∀ p : Pt,fitB l t p = true ↔ (p.patB && p.isOf l t) = true:=by
    intro p
    unfold fitB askB
    rw [hs.1,hs.2]
    cases hp : p.patB with
    | false => simp
    | true =>
     rw [isOf_fit (sound_tys h1.1).2.2.1 (sound_tys h1.1).2.2.2 p t (patB_well hp)]
     simp
   exact ⟨fun h p hp => (key p).1 (h p hp),fun h p hp => (key p).2 (h p hp)⟩
  rw [hall,hs.1,hs.2,decide_eq_true h1.2]
  cases ps.all fun p => p.patB && p.isOf l t with
  | false => rfl
  | true =>
   simp only [Bool.and_self,if_true,Bool.true_eq_false,if_false]
   by_cases h60 : 60 < (ps.map Pt.count).sum
   ·rw [if_pos h60,if_pos (by omega)]
   ·rw [if_neg h60,if_neg (by omega)]
set_option maxRecDepth 100000 in
set_option maxHeartbeats 4000000 in
theorem rasked_any (A : Option Addr) (l : List Dt) (c : Nat) (t : Ty) (Ap : Option Addr) (ps : List Pt) (cp : Nat) (w : World) (he : Env w) (hd : DtsIn w.heap.size w A l) (ht : t.In w.heap.size w) (hp : PtsIn w.heap.size w Ap ps) (hcnt : t.count ≤ 1048576) (hcc : ∀ d ∈ l,∀ x ∈ d.cons,x.ty.count ≤ 1048576) (hc : (ps.map Pt.count).sum ≤ 1048576) :
  Calls Tryz.prog 40 #[.slice A l.length c,t.val,.slice Ap ps.length cp] w fun e w' => e = .returned (.int .i64 (askedErr l t ps)) ∧ Below w.heap.size w w':=by
 have HERR:=Lib.hid (askedErr_ref (l:=l) (t:=t) hc)
 have HC1:=Lib.hid (fun (W : World) (hW : Below w.heap.size w W) => sound_any A l c t W (he.next hW) (hd.next hW) (ht.next hW) hcnt hcc)
 have HC2:=Lib.hid (fun (p : Pt) (hm : p ∈ ps) (W : World) (hW : Below w.heap.size w W) => validFlat_any p W (he.next hW) ((hp.each p hm).next hW) (hp.binds p hm))
 have HC3:=Lib.hid (fun (hs : soundB l t = true) (p : Pt) (hm : p ∈ ps) (hw : p.patB = true) (W : World) (hW : Below w.heap.size w W) => isOf_any A l c (sound_tys hs).2.1 p t W (hd.next hW) ((hp.each p hm).next hW) (patB_well hw) (ht.next hW) (sound_tys hs).1)
 have HC4:=Lib.hid (fun (W : World) (hW : Below w.heap.size w W) => rnodes_to (cntL ps) ps Ap cp W (Nat.le_refl _) hc ((hp.at_ hW hW.size).row) (fun p hm => (hp.each p hm).next hW))
 have HP:=Lib.hid hp
 have hpl:=hp.len
 have HB0:=Lib.hid ((Below.refl w.heap.size w).alloc (Nat.le_refl _) (.cells #[.string t.dof,.string t.name,.slice t.at_ t.args.length t.cap] 25))
 have K0:=Lib.hid (Blk.new w #[.string t.dof,.string t.name,.slice t.at_ t.args.length t.cap] 25)
 obtain ⟨er,her⟩ : ∃ er,askedErr l t ps = er:=⟨_,rfl⟩
 obtain ⟨sb,hsb⟩ : ∃ sb,soundB l t = sb:=⟨_,rfl⟩
 rw [her,hsb] at HERR
 rw [hsb] at HC1 HC3
 rw [her]
 clear he hd ht hp her hsb hc
 unfold Ty.val Pt.val at *
 go_enter Tryz.func40,Tryz.ntmps40
 go_wp2_with fail
 generalize w.alloc (.cells #[.string t.dof,.string t.name,.slice t.at_ t.args.length t.cap] 25) = w0 at HB0 K0 ⊢
 refine Calls.mono (HC1.out _ HB0.out) ?_
 rintro e w1 ⟨rfl,hb1⟩
 have HB1:=Lib.hid (HB0.out.trans (hb1.mono HB0.out.size))
 have K1:=Lib.hid (K0.out.below hb1 K0.out.lt)
 clear hb1
 cases sb
 case false =>
  have HR:=Lib.hid (show er = 40 by rw [HERR.out]; simp)
  go_wp2_with fail
  go_ret
  exact ⟨by rw [HR.out]; rfl,HB1.out⟩
 by_cases h12 : 12 < ps.length
 case pos =>
  have h12' : (12 : Int) < ps.length:=by omega
  have HR:=Lib.hid (show er = 40 by rw [HERR.out]; simp [h12])
  go_wp2_with fail
  go_ret
  exact ⟨by rw [HR.out]; rfl,HB1.out⟩
 have h12' : ¬(12 : Int) < ps.length:=by omega
 have HE2:=Lib.hid (show er = if (ps.all fun p => p.patB && p.isOf l t) = false then 40 else if 60 < (ps.map Pt.count).sum then 4 else 0 by rw [HERR.out]; simp [h12])
 have HC3':=Lib.hid (HC3.out (by simp))
 clear HERR HC3
 go_wp2_with fail
 go_loopw [20] (fun iv wr => ∃ k : Nat,iv = .int .i64 k ∧ k ≤ ps.length ∧ Hid (Below w.heap.size w wr) ∧ Hid (Blk wr w.heap.size #[.string t.dof,.string t.name,.slice t.at_ t.args.length t.cap] 25) ∧ Hid ((ps.take k).all (fun p => p.patB && p.isOf l t) = true)) (fun iv _ => ps.length - (intOf iv).toNat)
 case atStart => exact ⟨0,rfl,Nat.zero_le _,HB1.out,K1.out,Lib.hid rfl⟩
 case round =>
  obtain ⟨k,rfl,hk,HB,HK,HF⟩:=hrel
  by_cases hlt : k < ps.length
  ·obtain ⟨q,b0,off,hq,hmem,rfl,hb,x0,x1,x2,x3⟩:=Pt.arg_at HP.out.row HB.out hlt
   have HQ:=Lib.hid hq
   have HBA:=Lib.hid (HB.out.alloc HB.out.size (.cells #[.string q.dof,.string q.name,.int .i64 q.num,.slice q.at_ q.args.length q.cap] 28))
   have HKA:=Lib.hid (HK.out.alloc (.cells #[.string q.dof,.string q.name,.int .i64 q.num,.slice q.at_ q.args.length q.cap] 28))
   have KQ:=Lib.hid (Blk.new wr #[.string q.dof,.string q.name,.int .i64 q.num,.slice q.at_ q.args.length q.cap] 28)
   have HV:=Lib.hid (HC2.out q hmem)
   have HO:=Lib.hid (HC3'.out q hmem)
   obtain ⟨pb,hpb⟩ : ∃ pb,q.patB = pb:=⟨_,rfl⟩
   obtain ⟨ob,hob⟩ : ∃ ob,q.isOf l t = ob:=⟨_,rfl⟩
   rw [hpb] at HV HO
   rw [hob] at HO
   have HPB:=Lib.hid (And.intro hpb hob)
   have HNO:=Lib.hid (fun (h : (pb && ob) = false) => (show er = 40 by rw [HE2.out,all_no HQ.out (by show (q.patB && q.isOf l t) = false; rw [HPB.out.1,HPB.out.2]; exact h)]; rfl))
   clear hq hpb hob
   go_wp2_with fail
   clear x0 x1 x2 x3
   generalize wr.alloc (.cells #[.string q.dof,.string q.name,.int .i64 q.num,.slice q.at_ q.args.length q.cap] 28) = w2 at HBA HKA KQ ⊢
   refine Calls.mono (HV.out _ HBA.out) ?_
   rintro e w3 ⟨rfl,hb3⟩
   have HB3:=Lib.hid (HBA.out.trans (hb3.mono HBA.out.size))
   have HK3:=Lib.hid (HKA.out.below hb3 HKA.out.lt)
   have KQ3:=Lib.hid (KQ.out.below hb3 KQ.out.lt)
   clear hb3
   cases pb
   case false =>
    have HR:=Lib.hid (HNO.out rfl)
    go_wp2_with fail
    go_ret
    exact ⟨by rw [HR.out]; rfl,HB3.out⟩
   have HO2:=Lib.hid (HO.out (by simp))
   obtain ⟨y0,y1,y2⟩:=HK3.out.three
   have yl:=HK3.out.lt
   obtain ⟨z0,z1,z2,z3⟩:=KQ3.out.four
   have zl:=KQ3.out.lt
   go_wp2_with fail
   refine Calls.mono (HO2.out _ HB3.out) ?_
   rintro e w4 ⟨rfl,hb4⟩
   have HB4:=Lib.hid (HB3.out.trans (hb4.mono HB3.out.size))
   have HK4:=Lib.hid (HK3.out.below hb4 HK3.out.lt)
   clear hb4 y0 y1 y2 yl z0 z1 z2 z3 zl
   cases ob
   case false =>
    have HR:=Lib.hid (HNO.out rfl)
    go_wp2_with fail
    go_ret
    exact ⟨by rw [HR.out]; rfl,HB4.out⟩
   case true =>
    have HN:=Lib.hid (all_take_succ HQ.out HF.out (by show (q.patB && q.isOf l t) = true; rw [HPB.out.1,HPB.out.2]; rfl))
    go_wp2_with fail
    exact ⟨⟨k + 1,by go_num,by omega,HB4.out,HK4.out,HN.out⟩,by simp [intOf]; omega⟩
  ·have hk2 : k = ps.length:=by omega
   have hall:=HF.out
   rw [hk2,List.take_length] at hall
   have HE3:=Lib.hid (show er = if 60 < (ps.map Pt.count).sum then 4 else 0 by rw [HE2.out,hall]; rfl)
   clear hk2 hall
   have HE4:=Lib.hid (show er = if 60 < cntL ps then 4 else 0 from HE3.out)
   obtain ⟨s,hs⟩ : ∃ s,cntL ps = s:=⟨_,rfl⟩
   rw [hs] at HE4 HC4
   clear hs
   go_wp2_with fail
   refine Calls.mono (HC4.out _ HB.out) ?_
   rintro e w5 ⟨rfl,hb5⟩
   have HB5:=Lib.hid (HB.out.trans (hb5.mono HB.out.size))
   clear hb5
   by_cases h60 : (60 : Int) < s
   ·have HR:=Lib.hid (show er = 4 by rw [HE4.out,if_pos (by omega)])
    go_wp2_with fail
    go_ret
    exact ⟨by rw [HR.out]; rfl,HB5.out⟩
   ·have HR:=Lib.hid (show er = 0 by rw [HE4.out,if_neg (by omega)])
    go_wp2_with fail
    go_ret
    exact ⟨by rw [HR.out]; rfl,HB5.out⟩
end Go.Proofs.YtjeggkfgdhepaaaGreatDoor

namespace Go.Proofs.YtjeggkfgdhepaaaGreatDoor
open Go.RowKit
open Go.Proofs
open Go.Maps
def someB (l : List Dt) (bs : List Bool) (s : ByteArray) : Bool:=match l.findIdx? (fun d => d.name.toList == s.toList) with | some i => bs[i]?.getD true | none => true
def BoolsAt (B : Nat) (w : World) (A : Option Addr) (bs : List Bool) : Prop:=RowAt B w 1 A (bs.map fun b => [.bool b])
theorem BoolsAt.cell {B : Nat} {w w' : World} {A : Option Addr} {bs : List Bool} {k : Nat} (h : BoolsAt B w A bs) (hb : Below B w w') (hk : k < bs.length) : ∃ b o x,A = some ⟨b,o,none⟩ ∧ b < B ∧ bs[k]? = some x ∧ w'.cell? ⟨b,o + k,none⟩ = some (.bool x):=by
 obtain ⟨b,o,e,hlt,hc⟩:=h (by simp; omega)
 refine ⟨b,o,bs[k],e,hlt,List.getElem?_eq_getElem hk, ?_⟩
 have:=hc k [.bool bs[k]] (by rw [List.getElem?_map,List.getElem?_eq_getElem hk]; rfl) 0 _ rfl
 rw [Nat.mul_one,Nat.add_zero] at this
 exact (hb.cell (p:=⟨b,o + k,none⟩) hlt).trans this
theorem BoolsAt.next {w w' : World} {A : Option Addr} {bs : List Bool} (h : BoolsAt w.heap.size w A bs) (hb : Below w.heap.size w w') : BoolsAt w'.heap.size w' A bs:=(RowAt.keep h hb).wider hb.size
theorem someB_hit {l : List Dt} {bs : List Bool} {s : ByteArray} {i : Nat} {d : Dt} {b : Bool} (hd : l[i]? = some d) (hn : (d.name.toList == s.toList) = true) (hb : bs[i]? = some b) (hno : ∀ j x,j < i → l[j]? = some x → (x.name.toList == s.toList) = false) : someB l bs s = b:=by
 unfold someB
 have h : l.findIdx? (fun d => d.name.toList == s.toList) = some i:=by
  rw [List.findIdx?_eq_some_iff_getElem]
  obtain ⟨hi,hx⟩:=List.getElem?_eq_some_iff.1 hd
  refine ⟨hi,by rw [hx]; exact hn,fun j hj => ?_⟩
  have:=hno j _ hj (List.getElem?_eq_getElem (by omega))
  simp only [this]
  decide
 rw [h]
 simp only
 rw [hb]
 rfl
theorem someB_miss {l : List Dt} {bs : List Bool} {s : ByteArray} (hno : ∀ j x,j < l.length → l[j]? = some x → (x.name.toList == s.toList) = false) : someB l bs s = true:=by
 unfold someB
 have h : l.findIdx? (fun d => d.name.toList == s.toList) = none:=by
  rw [List.findIdx?_eq_none_iff]
  intro p hp
  obtain ⟨j,hj,rfl⟩:=List.getElem_of_mem hp
  exact hno j _ hj (List.getElem?_eq_getElem hj)
 rw [h]
set_option maxRecDepth 100000 in
set_option maxHeartbeats 8000000 in
theorem hasVal_any (A : Option Addr) (l : List Dt) (c : Nat) (As : Option Addr) (bs : List Bool) (cs : Nat) (hlen : bs.length = l.length) : ∀ (t : Ty) (w : World),okT l t → t.In w.heap.size w → DtsIn w.heap.size w A l → BoolsAt w.heap.size w As bs →
  Calls Tryz.prog 80 #[.slice A l.length c,.slice As bs.length cs,t.val] w fun e w' => e = .returned (.bool (hasV (someB l bs) t)) ∧ Below w.heap.size w w':=by
 refine Ty.induct fun d n At ct ts ih w ht hin hd hs => ?_
 have hmk:=hasV_mk (someB l bs) d n At ct ts
 obtain ⟨hdd,hnn,hl,-,hrow,hall⟩:=Ty.In_mk.1 hin
 have HD:=Lib.hid hd
 have HS:=Lib.hid hs
 have hdl:=hd.len
 have HLEN:=Lib.hid hlen
 have hbl : bs.length ≤ 1048576:=by omega
 clear hlen
 have HB0:=Lib.hid ((Below.refl w.heap.size w).alloc (Nat.le_refl _) (.cells #[.string d,.string n,.slice At ts.length ct] 25))
 have HK:=Lib.hid (Blk.new w #[.string d,.string n,.slice At ts.length ct] 25)
 obtain ⟨tp,hp⟩ : ∃ x,(d.toList == [112,97,105,114]) = x:=⟨_,rfl⟩
 obtain ⟨td,hdt⟩ : ∃ x,(d.toList == [100,97,116,97]) = x:=⟨_,rfl⟩
 unfold isDo at hmk
 rw [hp,hdt] at hmk
 cases tp
 case true =>
  obtain ⟨t0,t1,hargs⟩:=pair_args ht (show isDo [112,97,105,114] d = true from hp)
  have hok:=okT_args ht
  simp only [Ty.args] at hargs hok
  subst hargs
  obtain ⟨b1,o1,rfl,hb1,htc⟩:=two_tys hrow
  simp only [if_true,List.all_cons,List.all_nil,Bool.and_true] at hmk
  have HMK:=Lib.hid hmk
  have HC0:=Lib.hid (fun (W : World) (hW : Below w.heap.size w W) => ih t0 (by simp) W (hok t0 (by simp)) ((hall t0 (by simp)).next hW) (HD.out.next hW) (HS.out.next hW))
  have HC1:=Lib.hid (fun (W : World) (hW : Below w.heap.size w W) => ih t1 (by simp) W (hok t1 (by simp)) ((hall t1 (by simp)).next hW) (HD.out.next hW) (HS.out.next hW))
  have HTC:=Lib.hid htc
  clear hmk hin hd hs hrow hall htc hok ih ht
  generalize hasV (someB l bs) (.mk d n (some ⟨b1,o1,none⟩) ct [t0,t1]) = res at HMK ⊢
  generalize hasV (someB l bs) t0 = r0 at HMK HC0
  generalize hasV (someB l bs) t1 = r1 at HMK HC1
  obtain ⟨y0,y1,y2,y3,y4,y5⟩:=HTC.out _ HB0.out
  have hb1' : b1 < (w.alloc (.cells #[.string d,.string n,.slice (some ⟨b1,o1,none⟩) 2 ct] 25)).heap.size:=by simp; omega
  unfold Ty.val at *
  simp only [List.length_cons,List.length_nil,Nat.zero_add,Nat.reduceAdd] at HB0 HK y0 y1 y2 y3 y4 y5 hb1' hl
  simp only [Ty.dof,Ty.name,Ty.at_,Ty.cap,Ty.args,List.length_cons,List.length_nil,Nat.zero_add,Nat.reduceAdd]
  go_enter Tryz.func80,Tryz.ntmps80
  go_wp2_with fail
  clear y0 y1 y2 y3 y4 y5 hb1'
  generalize w.alloc (.cells #[.string d,.string n,.slice (some ⟨b1,o1,none⟩) 2 ct] 25) = w0 at HB0 HK ⊢
  refine Calls.mono (HC0.out _ HB0.out) ?_
  rintro e w1 ⟨rfl,hb1w⟩
  have HB1:=Lib.hid (HB0.out.trans (hb1w.mono HB0.out.size))
  have HK1:=Lib.hid (HK.out.below hb1w HK.out.lt)
  clear hb1w
  cases r0
  case false =>
   go_wp2_with fail
   go_ret
   exact ⟨by rw [HMK.out]; rfl,HB1.out⟩
  obtain ⟨x0,x1,x2⟩:=HK1.out.three
  have xl:=HK1.out.lt
  obtain ⟨y0,y1,y2,y3,y4,y5⟩:=HTC.out _ HB1.out
  have hb2' : b1 < w1.heap.size:=by have:=HB1.out.size; omega
  go_wp2_with fail
  refine Calls.mono (HC1.out _ HB1.out) ?_
  rintro e w2 ⟨rfl,hb2⟩
  have HB2:=Lib.hid (HB1.out.trans (hb2.mono HB1.out.size))
  clear hb2 y0 y1 y2 y3 y4 y5 hb2' x0 x1 x2 xl
  go_wp2_with fail
  go_ret
  exact ⟨by rw [HMK.out]; simp,HB2.out⟩
 simp only [Bool.false_eq_true,if_false] at hmk
 cases td
 case false =>
  simp only [Bool.false_eq_true,if_false] at hmk
  rw [hmk]
  clear hmk hin hd hs hrow hall ih ht
  unfold Ty.val
  simp only [Ty.dof,Ty.name,Ty.at_,Ty.cap,Ty.args]
  go_enter Tryz.func80,Tryz.ntmps80
  go_wp2_with fail
  go_ret
  exact ⟨rfl,HB0.out⟩
 case true =>
  simp only [if_true] at hmk
  have HMK:=Lib.hid hmk
  clear hin hd hs hrow hall ih ht
  generalize hasV (someB l bs) (.mk d n At ct ts) = res at HMK hmk ⊢
  clear hmk
  unfold Ty.val
  simp only [Ty.dof,Ty.name,Ty.at_,Ty.cap,Ty.args]
  go_enter Tryz.func80,Tryz.ntmps80
  go_wp2_with fail
  generalize w.alloc (.cells #[.string d,.string n,.slice At ts.length ct] 25) = w0 at HB0 HK ⊢
  go_loopw [33] (fun iv wr => ∃ k : Nat,iv = .int .i64 k ∧ k ≤ l.length ∧ Hid (Below w.heap.size w wr) ∧ Hid (Blk wr w.heap.size #[.string d,.string n,.slice At ts.length ct] 25) ∧ Hid (∀ j x,j < k → l[j]? = some x → (x.name.toList == n.toList) = false)) (fun iv _ => l.length - (intOf iv).toNat)
  case atStart => exact ⟨0,rfl,Nat.zero_le _,HB0.out,HK.out,Lib.hid fun j x hj => absurd hj (Nat.not_lt_zero _)⟩
  case round =>
   obtain ⟨k,rfl,hk,HB,HK1,HN⟩:=hrel
   by_cases hlt : k < l.length
   ·obtain ⟨q,b,off,hq,hmem,rfl,hb,x0,x1⟩:=Dt.arg_at HD.out.row HB.out hlt
    have HQ:=Lib.hid hq
    have hqn:=(HD.out.each q hmem).1
    have hbb2:=HB.out.size
    have hkb : k < bs.length:=by have:=HLEN.out; omega
    obtain ⟨y0,y1,y2⟩:=HK1.out.three
    have yl:=HK1.out.lt
    have HBA:=Lib.hid (HB.out.alloc HB.out.size (.cells #[.string q.name,.slice q.at_ q.cons.length q.cap] 111))
    have HKA:=Lib.hid (HK1.out.alloc (.cells #[.string q.name,.slice q.at_ q.cons.length q.cap] 111))
    obtain ⟨bb,ob,xb,rfl,hbb,hxb,c0⟩:=HS.out.cell HBA.out (k:=k) (by have:=HLEN.out; omega)
    have HXB:=Lib.hid hxb
    clear hq hxb
    obtain ⟨tn,htn⟩ : ∃ x,(q.name.toList == n.toList) = x:=⟨_,rfl⟩
    have HTN:=Lib.hid htn
    cases tn
    case true =>
     have HR:=Lib.hid (show res = xb by rw [HMK.out]; exact someB_hit HQ.out HTN.out HXB.out HN.out)
     go_wp2_with fail
     go_ret
     exact ⟨by rw [HR.out]; rfl,HBA.out⟩
    case false =>
     go_wp2_with fail
     exact ⟨⟨k + 1,by go_num,by omega,HBA.out,HKA.out,Lib.hid (fun j x hj hx => by
      by_cases hjk : j < k
      ·exact HN.out j x hjk hx
      ·have : j = k:=by omega
       subst this
       rw [HQ.out] at hx
       cases hx
       exact HTN.out)⟩,by simp [intOf]; omega⟩
   ·have hk2 : k = l.length:=by omega
    have hn:=HN.out
    rw [hk2] at hn
    have HR:=Lib.hid (show res = true by rw [HMK.out]; exact someB_miss (fun j x hj hx => hn j x hj hx))
    clear hn hk2
    go_wp2_with fail
    go_ret
    exact ⟨by rw [HR.out]; rfl,HB.out⟩
end Go.Proofs.YtjeggkfgdhepaaaGreatDoor
