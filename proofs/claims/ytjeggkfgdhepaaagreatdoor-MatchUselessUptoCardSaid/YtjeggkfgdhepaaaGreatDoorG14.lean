/- What the reference's useful needs and gives. -/
import Derived.Test.YtjeggkfgdhepaaaGreatDoorG13
set_option linter.unusedVariables false
set_option linter.unusedSimpArgs false
namespace Go.Proofs.YtjeggkfgdhepaaaGreatDoor
open Go.RowKit
open Go.Proofs
open Go.Maps
structure UsAt (l : List Dt) (A : Option Addr) (c : Nat) (bs : List Bool) (g bS : Nat) (w : World) : Prop where
 blk : Blk w bS #[.slice A l.length c,.slice (some ⟨g,0,none⟩) l.length l.length] 79
 dts : DtsIn w.heap.size w A l
 bools : BoolsAt w.heap.size w (some ⟨g,0,none⟩) bs
 blen : bs.length = l.length
theorem UsAt.next {l : List Dt} {A : Option Addr} {c : Nat} {bs : List Bool} {g bS : Nat} {w w1 : World} (h : UsAt l A c bs g bS w) (hb : Below w.heap.size w w1) : UsAt l A c bs g bS w1:=⟨h.blk.below hb h.blk.lt,h.dts.next hb,h.bools.next hb,h.blen⟩
structure UsIn (l : List Dt) (A : Option Addr) (c : Nat) (bs : List Bool) (g bS : Nat) (tys : Rt) (A2 : Option Addr) (rows : List Rw) (row : Rw) (w : World) : Prop where
 us : UsAt l A c bs g bS w
 dlen : ∀ d ∈ l,d.cons.length ≤ 1048576
 tin : tys.In w.heap.size w
 tok : ∀ t ∈ tys.tys,okT l t
 rin : RowsIn w.heap.size w A2 rows
 rok : ∀ r ∈ rows,POks l tys.tys r.pats
 rlen : rows.length ≤ 1000
 win : row.In w.heap.size w
 wok : POks l tys.tys row.pats
def UsPost (l : List Dt) (ts : List Ty) (rows : List (List Pt)) (row : List Pt) (w : World) (e : Ending) (w' : World) : Prop:=Below w.heap.size w w' ∧ ∃ b,e = .returned (.bool b) ∧ (b = true ↔ Useful l ts rows row)
def UsTo (l : List Dt) (A : Option Addr) (c : Nat) (bs : List Bool) (g bS : Nat) (n : Nat) : Prop:=∀ (tys : Rt) (A2 : Option Addr) (rows : List Rw) (c2 : Nat) (row : Rw) (w : World),UsIn l A c bs g bS tys A2 rows row w → sizeL tys.tys (patsL rows) row.pats ≤ n →
 Calls Tryz.prog 42 #[.pointer (some ⟨bS,0,none⟩),.slice A2 rows.length c2,row.val,tys.val] w (UsPost l tys.tys (patsL rows) row.pats w)
theorem UsPost.of {l : List Dt} {ts : List Ty} {rows : List (List Pt)} {row : List Pt} {w w' : World} {b : Bool} (hb : Below w.heap.size w w') (h : b = true ↔ Useful l ts rows row) : UsPost l ts rows row w (.returned (.bool b)) w':=⟨hb,b,rfl,h⟩
set_option maxRecDepth 100000 in
set_option maxHeartbeats 2000000 in
theorem rus_nil (l : List Dt) (A : Option Addr) (c : Nat) (bs : List Bool) (g bS : Nat) (At : Option Addr) (ct : Nat) (A2 : Option Addr) (rows : List Rw) (c2 : Nat) (row : Rw) (w : World) (h : UsIn l A c bs g bS ⟨At,ct,[]⟩ A2 rows row w) :
  Calls Tryz.prog 42 #[.pointer (some ⟨bS,0,none⟩),.slice A2 rows.length c2,row.val,(Rt.mk At ct []).val] w (UsPost l [] (patsL rows) row.pats w):=by
 have hu:=useful_nil l (patsL rows) row.pats (fun r hr => by
  obtain ⟨x,hx,rfl⟩:=List.mem_map.1 hr
  exact h.rok x hx)
 have HU:=Lib.hid (show (((rows.length : Int) == 0) = true) ↔ Useful l [] (patsL rows) row.pats by
  rw [hu]
  unfold patsL
  rw [List.map_eq_nil_iff]
  cases rows with
  | nil => simp
  | cons a b => simp; omega)
 have hl:=h.rlen
 clear h hu
 unfold Rt.val Rw.val
 simp only [List.length_nil]
 obtain ⟨z,hz⟩ : ∃ z,((rows.length : Int) == 0) = z:=⟨_,rfl⟩
 rw [hz] at HU
 go_enter Tryz.func42,Tryz.ntmps42
 go_wp2_with fail
 exact bodyPost_ret (v:=.bool z) (by simp [results,Tryz.results42,go_sem]) rfl (UsPost.of (Below.refl _ _) HU.out)
def flatTo (p : Pt) (rs : List Rw) (k : Nat) : Bool:=(headsTo rs k ++ [p]).all fun q => wildD q.dof
theorem flatTo_zero (p : Pt) (rs : List Rw) : flatTo p rs 0 = wildD p.dof:=by unfold flatTo headsTo; simp
theorem flatTo_succ {p : Pt} {rs : List Rw} {k : Nat} {r : Rw} {q : Pt} (h : rs[k]? = some r) (hq : r.pats[0]? = some q) : flatTo p rs (k + 1) = (flatTo p rs k && wildD q.dof):=by
 unfold flatTo
 rw [headsTo_succ h hq]
 simp only [List.all_append,List.all_cons,List.all_nil,Bool.and_true]
 cases (headsTo rs k).all (fun q => wildD q.dof) <;> cases wildD q.dof <;> cases wildD p.dof <;> rfl
end Go.Proofs.YtjeggkfgdhepaaaGreatDoor

namespace Go.Proofs.YtjeggkfgdhepaaaGreatDoor
open Go.RowKit
open Go.Proofs
open Go.Maps
def SUW (bS : Nat) (A : Option Addr) (n c g bt ot : Nat) (t : Ty) (W : World) : Prop:=W.cell? ⟨bS,0,none⟩ = some (.slice A n c) ∧ W.cell? ⟨bS,1,none⟩ = some (.slice (some ⟨g,0,none⟩) n n) ∧ bS < W.heap.size ∧ bt < W.heap.size ∧
 W.cell? ⟨bt,ot,none⟩ = some (.string t.dof) ∧ W.cell? ⟨bt,ot + 1,none⟩ = some (.string t.name) ∧ W.cell? ⟨bt,ot + 2,none⟩ = some (.slice t.at_ t.args.length t.cap)
theorem us_flat_in {l : List Dt} {A : Option Addr} {c : Nat} {bs : List Bool} {g bS : Nat} {bt ot ct : Nat} {t : Ty} {ts : List Ty} {A2 : Option Addr} {rs : List Rw} {b1 off1 cr : Nat} {p : Pt} {ps : List Pt} {w W0 W : World} {B : Nat} {A' : Option Addr} {c' : Nat}
  (h : UsIn l A c bs g bS ⟨some ⟨bt,ot,none⟩,ct,t :: ts⟩ A2 rs ⟨some ⟨b1,off1,none⟩,cr,p :: ps⟩ w) (hb : Below w.heap.size w W0) (ho : W0.ownsRow B 26 1 (.slice A' rs.length c') rs.length ((rs.map fun r => (tailRw r).val).take rs.length)) (hb2 : Below W0.heap.size W0 W) :
  UsIn l A c bs g bS ⟨tailAd 3 bt ot ct,ct - 1,ts⟩ A' (rs.map tailRw) ⟨tailAd 4 b1 off1 cr,cr - 1,ps⟩ W:=by
 have hd:=hb.trans (hb2.mono hb.size)
 have hlen : ∀ r ∈ rs,0 < r.pats.length:=fun r hr => by
  have:=(h.rok r hr).length
  simp only [List.length_cons] at this
  omega
 have ht : ∀ r ∈ rs,(tailRw r).In W.heap.size W ∧ (tailRw r).pats = r.pats.tail:=fun r hr =>
  tail_in2 (((h.rin.each r hr).keep hd).wider hd.size) (hlen r hr)
 have hrow:=(RowAt.keep (row_vals ho) hb2).wider hb2.size
 have htl : (rs.map fun r => (tailRw r).val).take rs.length = rs.map fun r => (tailRw r).val:=by
  have:=List.take_length (l:=rs.map fun r => (tailRw r).val)
  rwa [List.length_map] at this
 rw [htl,List.map_map] at hrow
 have htail : ∀ {qs : List Pt},POks l (t :: ts) qs → POks l ts qs.tail:=fun hq => by
  cases hq with
  | cons _ k => exact k
 exact {
  us:=h.us.next hd
  dlen:=h.dlen
  tin:=(Rt.In.keep (tail_ty h.tin) hd).wider hd.size
  tok:=fun u hu => h.tok u (by simp [hu])
  rin:=⟨by rw [List.map_map]; exact hrow,fun r hr => by
   obtain ⟨x,hx,rfl⟩:=List.mem_map.1 hr
   exact (ht x hx).1,by have:=h.rlen; simp; omega⟩
  rok:=fun r hr => by
   obtain ⟨x,hx,rfl⟩:=List.mem_map.1 hr
   rw [(ht x hx).2]
   exact htail (h.rok x hx)
  rlen:=by have:=h.rlen; simpa using this
  win:=(Rw.In.keep (tail_in h.win) hd).wider hd.size
  wok:=htail h.wok }
set_option maxRecDepth 100000 in
set_option maxHeartbeats 16000000 in
theorem rus_wild (l : List Dt) (hr : Right l) (A : Option Addr) (c : Nat) (bs : List Bool) (g bS : Nat) (hinh : Inh l (someB l bs)) (n : Nat) (ih : UsTo l A c bs g bS n) (bt ot ct : Nat) (t : Ty) (ts : List Ty) (A2 : Option Addr) (rs : List Rw) (c2 : Nat) (b1 off1 cr : Nat) (p : Pt) (ps : List Pt) (w : World)
  (h : UsIn l A c bs g bS ⟨some ⟨bt,ot,none⟩,ct,t :: ts⟩ A2 rs ⟨some ⟨b1,off1,none⟩,cr,p :: ps⟩ w) (hn : sizeL (t :: ts) (patsL rs) (p :: ps) ≤ n + 1) (hn2 : n < 100000) (hwild : flatTo p rs rs.length = true) :
  Calls Tryz.prog 42 #[.pointer (some ⟨bS,0,none⟩),.slice A2 rs.length c2,.slice (some ⟨b1,off1,none⟩) (ps.length + 1) cr,.slice (some ⟨bt,ot,none⟩) (ts.length + 1) ct] w (UsPost l (t :: ts) (patsL rs) (p :: ps) w):=by
 have H:=Lib.hid h
 have HRS:=Lib.hid h.rin
 obtain ⟨t',bt',ot',ht,-,hat,hbt,y0,y1,y2⟩:=Ty.arg_at (k:=0) h.tin.1 (Below.refl _ _) (by simp)
 obtain ⟨p',b1',off1',hp,-,hap,hb1,z0,z1,z2,z3⟩:=Pt.arg_at (k:=0) h.win.1 (Below.refl _ _) (by simp)
 simp only [List.getElem?_cons_zero,Option.some.injEq] at ht hp
 simp only [Option.some.injEq,Addr.mk.injEq,and_true] at hat hap
 subst ht
 subst hp
 obtain ⟨rfl,rfl⟩:=hat
 obtain ⟨rfl,rfl⟩:=hap
 simp only [Nat.zero_mul,Nat.add_zero] at y0 y1 y2 z0 z1 z2 z3
 have HNE:=Lib.hid (fun (r : Rw) (hr : r ∈ rs) => (show 0 < r.pats.length by
  have:=(h.rok r hr).length
  simp only [List.length_cons] at this
  omega))
 have HY:=Lib.hid (fun W (hW : Below w.heap.size w W) => (And.intro ((hW.cell (p:=⟨bt,ot,none⟩) hbt).trans y0) (And.intro ((hW.cell (p:=⟨bt,ot + 1,none⟩) hbt).trans y1) ((hW.cell (p:=⟨bt,ot + 2,none⟩) hbt).trans y2))))
 have HZ:=Lib.hid (fun W (hW : Below w.heap.size w W) => (⟨(hW.cell (p:=⟨b1,off1,none⟩) hb1).trans z0,(hW.cell (p:=⟨b1,off1 + 1,none⟩) hb1).trans z1,(hW.cell (p:=⟨b1,off1 + 2,none⟩) hb1).trans z2,(hW.cell (p:=⟨b1,off1 + 3,none⟩) hb1).trans z3⟩ : P4 b1 off1 p W))
 have HN:=Lib.hid hn
 have HWILD:=Lib.hid hwild
 have HR:=Lib.hid hr
 have HINH:=Lib.hid hinh
 have HIH:=Lib.hid ih
 have hlen:=h.rlen
 have hcc : ts.length + 1 ≤ ct ∧ ct ≤ 9223372036854775807:=by have:=h.tin.2.2; simpa using this
 have hcr : ps.length + 1 ≤ cr ∧ cr ≤ 9223372036854775807:=by have:=h.win.2.2; simpa using this
 have hlt0 : ts.length ≤ 100000:=by unfold sizeL at hn; simp only [List.length_cons] at hn; omega
 have HLP:=Lib.hid (show ps.length = ts.length by have:=h.wok.length; simp only [List.length_cons] at this; omega)
 have hlp : ps.length ≤ 100000:=by rw [HLP.out]; exact hlt0
 clear h hn hwild hr ih hinh
 obtain ⟨i0,hi,hz0,hz1,hz2⟩:=info_parts infoPat
 obtain ⟨i1,hj,hw0,hw1,hw2⟩:=info_parts infoRow
 have HCW:=Lib.hid (fun (q : Pt) (W : World) => rwild_any q W)
 unfold Pt.val at HCW
 go_enter Tryz.func42,Tryz.ntmps42
 go_wp2_with fail
 clear y0 y1 y2 z0 z1 z2 z3
 refine Calls.mono (HCW.out p _) ?_
 rintro e w1 ⟨rfl,hb1w⟩
 have HB1:=Lib.hid hb1w
 clear hb1w
 go_wp2_with fail
 go_loopw [38,9,10] (fun iv cv fv wr => ∃ (k : Nat) (Ac : Option Addr) (cc : Nat),iv = .int .i64 k ∧ cv = .slice Ac k cc ∧ fv = .bool (flatTo p rs k) ∧ k ≤ rs.length ∧ Hid (Below w.heap.size w wr) ∧ Hid (wr.ownsRow w.heap.size 28 4 (.slice Ac k cc) k (((headsTo rs k).map Pt.cells).flatten))) (fun iv _ _ _ => rs.length - (intOf iv).toNat)
 case atStart => exact ⟨0,none,0,rfl,rfl,by rw [flatTo_zero],Nat.zero_le _,HB1.out,World.ownsRow_nil _ _ _ _⟩
 case round =>
  obtain ⟨k,Ac,cc,rfl,rfl,rfl,hk,HB,HO⟩:=hrel
  by_cases hlt : k < rs.length
  ·obtain ⟨r,b0,off,hr,hmem,rfl,hb,x0⟩:=HRS.out.arg_at HB.out hlt
   obtain ⟨ra,rc,rp⟩:=r
   have hri:=HRS.out.each _ hmem
   obtain ⟨q,b2,off2,hq,hqm,hra,hb2,z0,z1,z2,z3⟩:=Pt.arg_at (k:=0) hri.1 HB.out (HNE.out _ hmem)
   simp only at hra
   subst hra
   have HSU:=Lib.hid (headsTo_succ hr hq)
   have HFS:=Lib.hid (flatTo_succ (p:=p) hr hq)
   have hs0:=HB.out.size
   have hpos:=HNE.out _ hmem
   have hrc : rp.length ≤ rc:=hri.2.2.1
   have HZ2:=Lib.hid (fun W (hW : Below w.heap.size w W) => (hri.2.1 q hqm).next hW)
   have HRW:=Lib.hid hri
   have HQ0:=Lib.hid hq
   simp only [Nat.zero_mul,Nat.add_zero] at z0 z1 z2 z3 hpos
   unfold Rw.val at x0
   clear hr hq hri
   go_wp2_with (at_builtin; go_must (refine wpList_append_own_at _ rfl (.tmp 42) (.tmp 46) 26 rfl w.heap.size 28 i0 _ 4 64 Tryz.underlying26 hi hz0 hz1 hz2 rfl (by decide) (.slice Ac k cc) k (((headsTo rs k).map Pt.cells).flatten) rfl ?hown ⟨wr.heap.size,0,none⟩ 1 1 q.cells rfl rfl ?c1 ?c2 ?c3 ?c4 ?c5 ?_))
   case hown => exact World.ownsRow.alloc HO.out _
   case c1 => exact fun j u hu => hu
   case c2 => simp [Value.oneCell',Pt.cells]
   case c3 => unfold maxLen; omega
   case c4 => omega
   case c5 => first | omega | (simp; omega)
   intro v' w2 hown hgrow _ _
   obtain ⟨A2',c2',rfl,-⟩:=row_slice hown
   have hbb : Below w.heap.size w w2:=(HB.out.alloc hs0 _).grown hgrow (by simp; omega) (fun i hi => (HO.out.lt i hi).1)
   have HB2:=Lib.hid hbb
   have HO2:=Lib.hid (show w2.ownsRow w.heap.size 28 4 (.slice A2' (k + 1) c2') (k + 1) (((headsTo rs (k + 1)).map Pt.cells).flatten) by
    rw [HSU.out,List.map_append,List.flatten_append]
    simpa using hown)
   obtain ⟨q',b3,off3,hq',-,hra3,hb3,z0',z1',z2',z3'⟩:=Pt.arg_at (k:=0) HRW.out.1 hbb hpos
   have hq2:=HQ0.out.symm.trans hq'
   simp only [Option.some.injEq] at hq2
   subst hq2
   simp only [Option.some.injEq,Addr.mk.injEq,and_true] at hra3
   obtain ⟨rfl,rfl⟩:=hra3
   simp only [Nat.zero_mul,Nat.add_zero] at z0' z1' z2' z3'
   have hbx:=hbb.size
   clear hown hgrow hbb x0 z0 z1 z2 z3 hq'
   cases hfl : flatTo p rs k
   case false =>
    rw [hfl] at HFS
    have HF2:=Lib.hid (show flatTo p rs (k + 1) = false by rw [HFS.out]; rfl)
    go_wp2_with fail
    exact ⟨⟨k + 1,A2',c2',by go_num,rfl,by rw [HF2.out],by omega,HB2.out,HO2.out⟩,by simp [intOf]; omega⟩
   case true =>
    rw [hfl] at HFS
    go_wp2_with fail
    refine Calls.mono (HCW.out _ _) ?_
    rintro e w3 ⟨rfl,hb3w⟩
    have HB3:=Lib.hid (HB2.out.trans (hb3w.mono HB2.out.size))
    have HO3:=Lib.hid (row_stays HO2.out fun i hi => hb3w.block i (HO2.out.lt i hi).2)
    clear hb3w
    go_wp2_with fail
    exact ⟨⟨k + 1,A2',c2',by go_num,rfl,by rw [HFS.out]; simp,by omega,HB3.out,HO3.out⟩,by simp [intOf]; omega⟩
  ·have hk2 : k = rs.length:=by omega
   subst hk2
   rw [HWILD.out]
   have HOKT:=Lib.hid (H.out.tok t (by simp))
   have HTI:=Lib.hid (H.out.tin.2.1 t (by simp))
   have HALLW:=Lib.hid (show wildD p.dof = true ∧ ∀ r ∈ patsL rs,∀ q r',r = q :: r' → wildD q.dof = true from heads_all HWILD.out)
   have HU:=Lib.hid (useful_flat l t ts (patsL rs) p ps (fun r hr => by
    obtain ⟨x,hx,rfl⟩:=List.mem_map.1 hr
    exact H.out.rok x hx) HALLW.out.1 HALLW.out.2)
   have HOKV:=Lib.hid (hasV_iff HR.out HINH.out HOKT.out)
   have HCALL:=Lib.hid (fun (W : World) (hW : Below w.heap.size w W) => (by
    have hu:=H.out.us.next hW
    have h:=hasVal_any A l c (some ⟨g,0,none⟩) bs l.length hu.blen t W HOKT.out (HTI.out.next hW) hu.dts hu.bools
    rw [hu.blen] at h
    exact h : Calls Tryz.prog 80 #[.slice A l.length c,.slice (some ⟨g,0,none⟩) l.length l.length,t.val] W fun e w' => e = .returned (.bool (hasV (someB l bs) t)) ∧ Below W.heap.size W w'))
   obtain ⟨hv,hhv⟩ : ∃ x,hasV (someB l bs) t = x:=⟨_,rfl⟩
   rw [hhv] at HCALL HOKV
   unfold Ty.val at HCALL
   clear HO hhv HALLW
   go_wp2_with fail
   obtain ⟨wo,rfl⟩ : ∃ wo : World,wo = wr:=⟨_,rfl⟩
   go_loopw [59,13] (fun iv ov wr => ∃ (k : Nat) (A' : Option Addr) (c' : Nat),iv = .int .i64 k ∧ k ≤ rs.length ∧ ov = .slice A' k c' ∧ Hid (Below w.heap.size w wr) ∧ Hid (wr.ownsRow w.heap.size 26 1 (.slice A' k c') k ((rs.map fun r => (tailRw r).val).take k))) (fun iv _ _ => rs.length - (intOf iv).toNat)
   case atStart => exact ⟨0,none,0,rfl,Nat.zero_le _,rfl,HB.out,Lib.hid (World.ownsRow_nil _ _ _ _)⟩
   case round =>
    obtain ⟨k,A',c',rfl,hk,rfl,HB,HO⟩:=hrel
    have hs0:=HB.out.size
    by_cases hlt : k < rs.length
    ·obtain ⟨r,b0,off,hr,hmem,rfl,hb,x0⟩:=HRS.out.arg_at HB.out hlt
     have HTS:=Lib.hid (take_snoc (l:=rs.map fun r => (tailRw r).val) (q:=(tailRw r).val) (by rw [List.getElem?_map,hr]; rfl))
     obtain ⟨ra,rc,rp⟩:=r
     cases rp with
     | nil => exact absurd (HNE.out _ hmem) (by simp)
     | cons q qs =>
     have hri:=HRS.out.each _ hmem
     obtain ⟨b2,off2,rfl,hb2⟩:=hri.some
     have hrc : qs.length + 1 ≤ rc ∧ rc ≤ 9223372036854775807:=by have:=hri.2.2; simpa using this
     unfold Rw.val at x0
     simp only [List.length_cons] at x0
     clear hr hri hmem
     by_cases hc1 : rc = 1
     ·subst hc1
      have hqs : qs = []:=List.eq_nil_of_length_eq_zero (by omega)
      subst hqs
      simp only [List.length_nil,Nat.zero_add] at x0
      have HTV:=Lib.hid (show (tailRw ⟨some ⟨b2,off2,none⟩,1,[q]⟩).val = .slice (some ⟨b2,off2,none⟩) 0 0 from rfl)
      go_wp2_with (at_builtin; go_must (refine wpList_append_own_at _ rfl (.tmp 63) (.tmp 66) 80 rfl w.heap.size 26 i1 _ 1 24 Tryz.underlying80 hj hw0 hw1 hw2 rfl (by decide) (.slice A' k c') k ((rs.map fun r => (tailRw r).val).take k) rfl ?ha0 ⟨wr.heap.size,0,none⟩ 1 1 [.slice (some ⟨b2,off2,none⟩) 0 0] rfl rfl ?ha1 ?ha2 ?ha3 ?ha4 ?ha5 ?_))
      case ha0 => exact World.ownsRow.alloc HO.out _
      case ha1 => exact World.news_of_block (heap_alloc_new wr _)
      case ha2 => simp [Value.oneCell']
      case ha3 => unfold maxLen; omega
      case ha4 => omega
      case ha5 => first | omega | (simp; omega)
      intro v' w5 hown hgrow _ _
      obtain ⟨A5,c5,rfl,-⟩:=row_slice hown
      have hb5 : Below w.heap.size w w5:=(HB.out.alloc hs0 _).grown hgrow (by simp; omega) (fun i hi => by have:=(HO.out.lt i hi).1; omega)
      have HB5:=Lib.hid hb5
      have HO5:=Lib.hid hown
      clear hown hgrow hb5 x0
      go_wp2_with fail
      refine ⟨⟨k + 1,A5,c5,by go_num,by omega,rfl,HB5.out,Lib.hid ?_⟩,by simp [intOf]; omega⟩
      rw [HTS.out,HTV.out]
      exact HO5.out
     ·have HTV:=Lib.hid (show (tailRw ⟨some ⟨b2,off2,none⟩,rc,q :: qs⟩).val = .slice (some ⟨b2,off2 + 4,none⟩) qs.length (rc - 1) by rw [tailRw_mk]; unfold tailAd Rw.val; simp [hc1])
      go_wp2_with (at_builtin; go_must (refine wpList_append_own_at _ rfl (.tmp 63) (.tmp 66) 80 rfl w.heap.size 26 i1 _ 1 24 Tryz.underlying80 hj hw0 hw1 hw2 rfl (by decide) (.slice A' k c') k ((rs.map fun r => (tailRw r).val).take k) rfl ?hb0 ⟨wr.heap.size,0,none⟩ 1 1 [.slice (some ⟨b2,off2 + 4,none⟩) qs.length (rc - 1)] rfl rfl ?hb1 ?hb2 ?hb3 ?hb4 ?hb5 ?_))
      case hb0 => exact World.ownsRow.alloc HO.out _
      case hb1 => exact World.news_of_block (heap_alloc_new wr _)
      case hb2 => simp [Value.oneCell']
      case hb3 => unfold maxLen; omega
      case hb4 => omega
      case hb5 => first | omega | (simp; omega)
      intro v' w5 hown hgrow _ _
      obtain ⟨A5,c5,rfl,-⟩:=row_slice hown
      have hb5 : Below w.heap.size w w5:=(HB.out.alloc hs0 _).grown hgrow (by simp; omega) (fun i hi => by have:=(HO.out.lt i hi).1; omega)
      have HB5:=Lib.hid hb5
      have HO5:=Lib.hid hown
      clear hown hgrow hb5 x0
      go_wp2_with fail
      refine ⟨⟨k + 1,A5,c5,by go_num,by omega,rfl,HB5.out,Lib.hid ?_⟩,by simp [intOf]; omega⟩
      rw [HTS.out,HTV.out]
      exact HO5.out
    ·have hk2 : k = rs.length:=by omega
     subst hk2
     have HBX:=Lib.hid (fun (W : World) (hW : Below wr.heap.size wr W) => (show SUW bS A l.length c g bt ot t W from by
      have hw:=HB.out.trans (hW.mono HB.out.size)
      have hu:=H.out.us.next hw
      obtain ⟨q0,q1,q2⟩:=HY.out W hw
      exact ⟨hu.blk.cell 0,hu.blk.cell 1,hu.blk.lt,by have:=hw.size; omega,q0,q1,q2⟩))
     have HSZ:=Lib.hid (show sizeL ts (patsL (rs.map tailRw)) ps ≤ n by
      have h1:=HN.out
      rw [tail_pats (fun r hr => (HRS.out.each r hr)) HNE.out]
      have h2:=tails_weight (patsL rs)
      have h3 : rowW ps ≤ rowW (p :: ps):=by
       have : rowW (p :: ps) = p.weight + rowW ps:=by unfold rowW; simp
       omega
      unfold sizeL at h1 ⊢
      simp only [List.length_cons] at h1
      omega)
     have HPT:=Lib.hid (show patsL (rs.map tailRw) = (patsL rs).map List.tail from tail_pats (fun r hr => HRS.out.each r hr) HNE.out)
     have HREC:=Lib.hid (fun (W : World) (hW : Below wr.heap.size wr W) => (by
      have h:=HIH.out ⟨tailAd 3 bt ot ct,ct - 1,ts⟩ A' (rs.map tailRw) c' ⟨tailAd 4 b1 off1 cr,cr - 1,ps⟩ W (us_flat_in H.out HB.out HO.out hW) HSZ.out
      rw [List.length_map] at h
      exact h : Calls Tryz.prog 42 #[.pointer (some ⟨bS,0,none⟩),.slice A' rs.length c',.slice (tailAd 4 b1 off1 cr) ps.length (cr - 1),.slice (tailAd 3 bt ot ct) ts.length (ct - 1)] W (UsPost l ts (patsL (rs.map tailRw)) ps W)))
     unfold UsPost at HREC
     have hn0 : -9223372036854775808 ≤ (0 : Int):=by decide
     go_wp2_with fail
     refine region_mix (SUW bS A l.length c g bt ot t) [(0,true),(1,true),(2,true),(3,true),(4,true),(5,true),(6,true),(7,true),(8,true),(9,true),(10,true),(11,false),(12,false),(13,true),(14,true),(15,true),(16,true),(17,true),(18,true),(19,false),(20,false),(21,false)] 19 (by kernel_rfl) (by kernel_rfl) (HBX.out _ (Below.refl _ _).drew) ?_
     simp only [pickM,List.filterMap_cons,List.getElem?_cons_zero,List.getElem?_cons_succ,List.filterMap_nil,Option.map_some]
     iterate 11
      refine wpMix_read ?_ (by rfl) (fun W hW => ?_) ?_
      rotate_left
      ·unfold SUW at hW
       go_simp
       try with_reducible rfl
      simp only [Act.put,List.setIfInBounds_toArray,List.set_cons_zero,List.set_cons_succ]
     refine wpMix_step rfl (fun K hK => ?_)
     go_simp
     refine Calls.mono (HCALL.out _ HB.out.drew) ?_
     rintro e w6 ⟨rfl,hb6⟩
     have HD6:=Lib.hid ((Below.refl wr.heap.size wr).drew.trans (hb6.mono (Below.refl wr.heap.size wr).drew.size))
     clear hb6
     refine hK _ _ (fun _ => HBX.out _ HD6.out) ?_
     clear hK K
     refine wpMix_step rfl (fun K hK => ?_)
     go_simp
     refine hK _ _ (fun _ => HBX.out _ HD6.out) ?_
     clear hK K
     cases hv
     case false =>
      iterate 6
       refine wpMix_none (by rfl) ?_
       simp only [Act.put,List.setIfInBounds_toArray,List.set_cons_zero,List.set_cons_succ]
      refine wpMix_skip (by rfl) (HBX.out _ HD6.out) ?_
      simp only [Act.put,List.setIfInBounds_toArray,List.set_cons_zero,List.set_cons_succ]
      iterate 2
       refine wpMix_step rfl (fun K hK => ?_)
       go_simp
       refine hK _ _ (fun h => absurd h (by decide)) ?_
       clear hK K
      refine wpMix_nil ?_
      refine NoPanic.normal ?_
      go_wp2_with fail
      exact bodyPost_ret (v:=.bool false) (by simp [results,Tryz.results42,go_sem]) rfl (UsPost.of (HB.out.trans (HD6.out.mono HB.out.size)) ⟨fun h => (by cases h),fun h => (by have:=HOKV.out.2 (HU.out.1 h).1; first | (cases this; done) | exact this.elim | simp at this)⟩)
     case true =>
      iterate 3
       refine wpMix_read ?_ (by rfl) (fun W hW => ?_) ?_
       rotate_left
       ·unfold SUW at hW
        go_simp
        try with_reducible rfl
       simp only [Act.put,List.setIfInBounds_toArray,List.set_cons_zero,List.set_cons_succ]
      refine wpMix_read (.slice (tailAd 4 b1 off1 cr) ps.length (cr - 1)) (by rfl) (fun W hW => ?_) ?_
      ·unfold tailAd
       by_cases hc1 : cr = 1
       ·subst hc1
        have hps : ps = []:=List.eq_nil_of_length_eq_zero (by omega)
        rw [hps]
        go_simp
       ·rw [if_neg hc1]
        go_simp
        all_goals (try (intro h9; omega))
      simp only [Act.put,List.setIfInBounds_toArray,List.set_cons_zero,List.set_cons_succ]
      refine wpMix_read ?_ (by rfl) (fun W hW => ?_) ?_
      rotate_left
      ·unfold SUW at hW
       go_simp
       try with_reducible rfl
      simp only [Act.put,List.setIfInBounds_toArray,List.set_cons_zero,List.set_cons_succ]
      refine wpMix_read (.slice (tailAd 3 bt ot ct) ts.length (ct - 1)) (by rfl) (fun W hW => ?_) ?_
      ·unfold tailAd
       by_cases hc1 : ct = 1
       ·subst hc1
        have hts : ts = []:=List.eq_nil_of_length_eq_zero (by omega)
        rw [hts]
        go_simp
       ·rw [if_neg hc1]
        go_simp
        all_goals (try (intro h9; omega))
      simp only [Act.put,List.setIfInBounds_toArray,List.set_cons_zero,List.set_cons_succ]
      refine wpMix_stepw (by rfl) (fun K hK => ?_)
      go_simp
      refine Calls.mono (HREC.out _ HD6.out) ?_
      rintro e w7 ⟨hb7,b,rfl,hbu⟩
      have HD7:=Lib.hid (HD6.out.trans (hb7.mono HD6.out.size))
      have HBU:=Lib.hid hbu
      clear hb7 hbu
      refine hK _ _ (fun h => absurd h (by decide)) ?_
      clear hK K
      iterate 2
       refine wpMix_step rfl (fun K hK => ?_)
       go_simp
       refine hK _ _ (fun h => absurd h (by decide)) ?_
       clear hK K
      refine wpMix_nil ?_
      refine NoPanic.normal ?_
      go_wp2_with fail
      exact bodyPost_ret (v:=.bool b) (by simp [results,Tryz.results42,go_sem]) rfl (UsPost.of (HB.out.trans (HD7.out.mono HB.out.size)) (by rw [HBU.out,HPT.out,HU.out]; exact ⟨fun h => ⟨HOKV.out.1 (by simp),h⟩,fun h => h.2⟩))
end Go.Proofs.YtjeggkfgdhepaaaGreatDoor

namespace Go.Proofs.YtjeggkfgdhepaaaGreatDoor
open Go.RowKit
open Go.Proofs
open Go.Maps
def SUF (bS : Nat) (A : Option Addr) (n c : Nat) (bt ot : Nat) (t : Ty) (b1 off1 : Nat) (p : Pt) (W : World) : Prop:=W.cell? ⟨bS,0,none⟩ = some (.slice A n c) ∧ bS < W.heap.size ∧ bt < W.heap.size ∧ b1 < W.heap.size ∧
 (W.cell? ⟨bt,ot,none⟩ = some (.string t.dof) ∧ W.cell? ⟨bt,ot + 1,none⟩ = some (.string t.name) ∧ W.cell? ⟨bt,ot + 2,none⟩ = some (.slice t.at_ t.args.length t.cap)) ∧
 W.cell? ⟨b1,off1,none⟩ = some (.string p.dof) ∧ W.cell? ⟨b1,off1 + 1,none⟩ = some (.string p.name) ∧ W.cell? ⟨b1,off1 + 2,none⟩ = some (.int .i64 p.num) ∧ W.cell? ⟨b1,off1 + 3,none⟩ = some (.slice p.at_ p.args.length p.cap)
def SUP (bS : Nat) (A : Option Addr) (n c : Nat) (bt ot : Nat) (t : Ty) (bx : Nat) (h : Pt) (W : World) : Prop:=W.cell? ⟨bS,0,none⟩ = some (.slice A n c) ∧ bS < W.heap.size ∧ bt < W.heap.size ∧ bx < W.heap.size ∧
 (W.cell? ⟨bt,ot,none⟩ = some (.string t.dof) ∧ W.cell? ⟨bt,ot + 1,none⟩ = some (.string t.name) ∧ W.cell? ⟨bt,ot + 2,none⟩ = some (.slice t.at_ t.args.length t.cap)) ∧
 W.cell? ⟨bx,0,none⟩ = some (.string h.dof) ∧ W.cell? ⟨bx,1,none⟩ = some (.string h.name) ∧ W.cell? ⟨bx,2,none⟩ = some (.int .i64 h.num) ∧ W.cell? ⟨bx,3,none⟩ = some (.slice h.at_ h.args.length h.cap)
theorem F2.get {α β : Type} {R : α → β → Prop} {l : List α} {m : List β} (h : F2 R l m) : ∀ (k : Nat) (b : β),m[k]? = some b → ∃ a,l[k]? = some a ∧ R a b:=by
 induction h with
 | nil => intro k b hb; simp at hb
 | cons h1 _ ih =>
  intro k b hb
  cases k with
  | zero =>
   simp only [List.getElem?_cons_zero,Option.some.injEq] at hb
   subst hb
   exact ⟨_,rfl,h1⟩
  | succ k => exact ih k b (by simpa using hb)
theorem forms_cons {l : List Dt} {t : Ty} {col : List Pt} {fs : List Form} (h : IsForms l t col fs) {f : Form} (hf : f ∈ fs) (hc : (f.dof.toList == [99,111,110,115]) = true) : isDo [108,105,115,116] t.dof = true:=by
 have key : ∀ d : ByteArray,(d.toList == [99,111,110,115]) = false → f.dof = d → False:=fun d hd he => by rw [he,hd] at hc; cases hc
 rcases h with ⟨hd,rfl⟩ | ⟨hd,rfl⟩ | ⟨hd,rfl⟩ | ⟨hd,rfl⟩ | ⟨hd,ns,m,rfl,hns⟩ | ⟨hd,rfl⟩
 ·simp only [List.mem_singleton] at hf
  exact (key dPair (by rw [l_pair]; decide) (by rw [hf])).elim
 ·exact hd
 ·simp only [List.mem_cons,List.not_mem_nil,or_false] at hf
  exact (key dBool (by rw [l_bool]; decide) (by rcases hf with rfl | rfl <;> rfl)).elim
 ·simp only [List.mem_singleton] at hf
  exact (key dUnit (by rw [l_unit]; decide) (by rw [hf])).elim
 ·refine (key dInt (by rw [l_int]; decide) ?_).elim
  rcases List.mem_append.1 hf with h | h
  ·obtain ⟨n,-,rfl⟩:=List.mem_map.1 h
   rfl
  ·simp only [List.mem_singleton] at h
   rw [h]
 ·obtain ⟨c,-,rfl⟩:=List.mem_map.1 hf
  exact (key dCon (by rw [l_con]; decide) rfl).elim
theorem us_open_in {l : List Dt} {A : Option Addr} {c : Nat} {bs : List Bool} {g bS : Nat} {bt ot ct : Nat} {t : Ty} {ts : List Ty} {A2 : Option Addr} {rs : List Rw} {b1 off1 cr : Nat} {p : Pt} {ps : List Pt} {w w4 wr W : World} {f : Form} {next : List Pt} {An A7 Aa : Option Addr} {cn c7 ca B7 : Nat} {acc : List Rw}
  (h : UsIn l A c bs g bS ⟨some ⟨bt,ot,none⟩,ct,t :: ts⟩ A2 rs ⟨some ⟨b1,off1,none⟩,cr,p :: ps⟩ w) (hf : FormOk l t f) (hti : ∀ u ∈ f.types,u.In w.heap.size w) (hon : opened f (p :: ps) = some next)
  (h4 : Below w.heap.size w w4) (hown4 : w4.ownsRow w.heap.size 28 4 (.slice An next.length cn) next.length ((next.map Pt.cells).flatten)) (hr : Below w4.heap.size w4 wr) (ho : wr.ownsRow w4.heap.size 26 1 (.slice Aa acc.length ca) acc.length (acc.map Rw.val)) (hor : ∀ r ∈ acc,OwnRw w4 wr r)
  (hpa : patsL acc = (patsL rs).filterMap (opened f)) (hal : acc.length ≤ rs.length) (hW : Below wr.heap.size wr W) (hown7 : W.ownsRow B7 25 3 (.slice A7 (f.types ++ ts).length c7) (f.types ++ ts).length (((f.types ++ ts).map Ty.cells).flatten)) :
  UsIn l A c bs g bS ⟨A7,c7,f.types ++ ts⟩ Aa acc ⟨An,cn,next⟩ W:=by
 have hb4W : Below w4.heap.size w4 W:=hr.trans (hW.mono hr.size)
 have hbW : Below w.heap.size w W:=h4.trans (hb4W.mono h4.size)
 have hrow9:=row_vals (row_stays ho fun i hi => hW.block i (ho.lt i hi).2)
 rw [List.map_map] at hrow9
 have hnext : ∀ q ∈ next,q.In w4.heap.size w4:=opened_in (fun q hq => (h.win.2.1 q hq).next h4) hon
 have hlen:=h.rlen
 exact {
  us:=h.us.next hbW
  dlen:=h.dlen
  tin:=tysO_in hown7 fun u hu => by
   rcases List.mem_append.1 hu with hh | hh
   ·exact (hti u hh).next hbW
   ·exact (h.tin.2.1 u (by simp [hh])).next hbW
  tok:=fun u hu => by
   rcases List.mem_append.1 hu with hh | hh
   ·exact hf.types u hh
   ·exact h.tok u (by simp [hh])
  rin:=⟨hrow9,fun r hr9 => Rw.In.wider (Rw.In.keep ((hor r hr9).in_ hr) hW) hW.size,by omega⟩
  rok:=fun r hr9 => by
   have hm : r.pats ∈ (patsL rs).filterMap (opened f):=by
    rw [← hpa]
    exact List.mem_map.2 ⟨r,hr9,rfl⟩
   obtain ⟨y,hy,ho9⟩:=List.mem_filterMap.1 hm
   obtain ⟨x,hx,rfl⟩:=List.mem_map.1 hy
   exact opened_ok hf (h.rok x hx) ho9
  rlen:=by omega
  win:=Rw.In.wider (Rw.In.keep (PatsO.in_ hown4 hnext) hb4W) hb4W.size
  wok:=opened_ok hf h.wok hon }
theorem us_size {l : List Dt} {t : Ty} {ts : List Ty} {rs : List Rw} {p : Pt} {ps next : List Pt} {f : Form} {n : Nat} (htwo : f.types.length ≤ 2) (hon : opened f (p :: ps) = some next) (hn : sizeL (t :: ts) (patsL rs) (p :: ps) ≤ n + 1) (htame : wildD p.dof = false ∨ ∃ q r,q :: r ∈ patsL rs ∧ wildD q.dof = false) :
  sizeL (f.types ++ ts) ((patsL rs).filterMap (opened f)) next ≤ n:=by
 have g1:=filter_weight f (patsL rs)
 have g2:=opened_weight hon
 unfold sizeL at hn ⊢
 simp only [List.length_cons,List.length_append] at hn ⊢
 rcases htame with h | h
 ·have:=g2.2 h
  omega
 ·have:=g1.2 h
  omega
theorem us_call {n : Nat} {l : List Dt} {A : Option Addr} {c : Nat} {bs : List Bool} {g bS : Nat} {bt ot ct : Nat} {t : Ty} {ts : List Ty} {A2 : Option Addr} {rs : List Rw} {b1 off1 cr : Nat} {p : Pt} {ps : List Pt} {w w4 wr W : World} {f : Form} {next : List Pt} {An A7 Aa : Option Addr} {cn c7 ca B7 : Nat} {acc : List Rw}
  (ih : UsTo l A c bs g bS n) (h : UsIn l A c bs g bS ⟨some ⟨bt,ot,none⟩,ct,t :: ts⟩ A2 rs ⟨some ⟨b1,off1,none⟩,cr,p :: ps⟩ w) (hf : FormOk l t f) (hti : ∀ u ∈ f.types,u.In w.heap.size w) (hon : opened f (p :: ps) = some next)
  (h4 : Below w.heap.size w w4) (hown4 : w4.ownsRow w.heap.size 28 4 (.slice An next.length cn) next.length ((next.map Pt.cells).flatten)) (hr : Below w4.heap.size w4 wr) (ho : wr.ownsRow w4.heap.size 26 1 (.slice Aa acc.length ca) acc.length (acc.map Rw.val)) (hor : ∀ r ∈ acc,OwnRw w4 wr r)
  (hpa : patsL acc = (patsL rs).filterMap (opened f)) (hal : acc.length ≤ rs.length) (hW : Below wr.heap.size wr W) (k : Nat) (hk : k = (f.types ++ ts).length) (hown7 : W.ownsRow B7 25 3 (.slice A7 k c7) k (((f.types ++ ts).map Ty.cells).flatten)) (htwo : f.types.length ≤ 2) (hn : sizeL (t :: ts) (patsL rs) (p :: ps) ≤ n + 1) (htame : wildD p.dof = false ∨ ∃ q r,q :: r ∈ patsL rs ∧ wildD q.dof = false) :
  Calls Tryz.prog 42 #[.pointer (some ⟨bS,0,none⟩),.slice Aa acc.length ca,.slice An next.length cn,.slice A7 k c7] W (UsPost l (f.types ++ ts) ((patsL rs).filterMap (opened f)) next W):=by
 subst hk
 have h8:=ih ⟨A7,c7,f.types ++ ts⟩ Aa acc ca ⟨An,cn,next⟩ W (us_open_in h hf hti hon h4 hown4 hr ho hor hpa hal hW hown7) (by
  rw [hpa]
  exact us_size (l:=l) htwo hon hn htame)
 rw [hpa] at h8
 exact h8
theorem own_zero (w : World) (B : Nat) (hB : B ≤ w.heap.size) : (w.alloc (.cells #[] 25)).ownsRow B 25 3 (.slice (some ⟨w.heap.size,0,none⟩) 0 0) 0 []:=
 ⟨rfl,.inr ⟨_,0,_,rfl,hB,heap_alloc_new w _,Nat.le_refl _,by decide,rfl,rfl⟩⟩
set_option maxRecDepth 100000 in
set_option maxHeartbeats 32000000 in
theorem rus_forms (l : List Dt) (hr : Right l) (A : Option Addr) (c : Nat) (bs : List Bool) (g bS : Nat) (hinh : Inh l (someB l bs)) (n : Nat) (ih : UsTo l A c bs g bS n) (bt ot ct : Nat) (t : Ty) (ts : List Ty) (A2 : Option Addr) (rs : List Rw) (c2 : Nat) (b1 off1 cr : Nat) (p : Pt) (ps : List Pt) (w : World)
  (h : UsIn l A c bs g bS ⟨some ⟨bt,ot,none⟩,ct,t :: ts⟩ A2 rs ⟨some ⟨b1,off1,none⟩,cr,p :: ps⟩ w) (hn : sizeL (t :: ts) (patsL rs) (p :: ps) ≤ n + 1) (hn2 : n < 100000) (hwild : flatTo p rs rs.length = false) :
  Calls Tryz.prog 42 #[.pointer (some ⟨bS,0,none⟩),.slice A2 rs.length c2,.slice (some ⟨b1,off1,none⟩) (ps.length + 1) cr,.slice (some ⟨bt,ot,none⟩) (ts.length + 1) ct] w (UsPost l (t :: ts) (patsL rs) (p :: ps) w):=by
 have H:=Lib.hid h
 have HRS:=Lib.hid h.rin
 obtain ⟨t',bt',ot',ht,-,hat,hbt,y0,y1,y2⟩:=Ty.arg_at (k:=0) h.tin.1 (Below.refl _ _) (by simp)
 obtain ⟨p',b1',off1',hp,-,hap,hb1,z0,z1,z2,z3⟩:=Pt.arg_at (k:=0) h.win.1 (Below.refl _ _) (by simp)
 simp only [List.getElem?_cons_zero,Option.some.injEq] at ht hp
 simp only [Option.some.injEq,Addr.mk.injEq,and_true] at hat hap
 subst ht
 subst hp
 obtain ⟨rfl,rfl⟩:=hat
 obtain ⟨rfl,rfl⟩:=hap
 simp only [Nat.zero_mul,Nat.add_zero] at y0 y1 y2 z0 z1 z2 z3
 have HNE:=Lib.hid (fun (r : Rw) (hr : r ∈ rs) => (show 0 < r.pats.length by
  have:=(h.rok r hr).length
  simp only [List.length_cons] at this
  omega))
 have HY:=Lib.hid (fun W (hW : Below w.heap.size w W) => (And.intro ((hW.cell (p:=⟨bt,ot,none⟩) hbt).trans y0) (And.intro ((hW.cell (p:=⟨bt,ot + 1,none⟩) hbt).trans y1) ((hW.cell (p:=⟨bt,ot + 2,none⟩) hbt).trans y2))))
 have HZ:=Lib.hid (fun W (hW : Below w.heap.size w W) => (⟨(hW.cell (p:=⟨b1,off1,none⟩) hb1).trans z0,(hW.cell (p:=⟨b1,off1 + 1,none⟩) hb1).trans z1,(hW.cell (p:=⟨b1,off1 + 2,none⟩) hb1).trans z2,(hW.cell (p:=⟨b1,off1 + 3,none⟩) hb1).trans z3⟩ : P4 b1 off1 p W))
 have HN:=Lib.hid hn
 have HWILD:=Lib.hid hwild
 have HR:=Lib.hid hr
 have HINH:=Lib.hid hinh
 have HIH:=Lib.hid ih
 have hlen:=h.rlen
 have hcc : ts.length + 1 ≤ ct ∧ ct ≤ 9223372036854775807:=by have:=h.tin.2.2; simpa using this
 have hcr : ps.length + 1 ≤ cr ∧ cr ≤ 9223372036854775807:=by have:=h.win.2.2; simpa using this
 have hlt0 : ts.length ≤ 100000:=by unfold sizeL at hn; simp only [List.length_cons] at hn; omega
 have HLP:=Lib.hid (show ps.length = ts.length by have:=h.wok.length; simp only [List.length_cons] at this; omega)
 have hlp : ps.length ≤ 100000:=by rw [HLP.out]; exact hlt0
 clear h hn hwild hr ih hinh
 obtain ⟨i0,hi,hz0,hz1,hz2⟩:=info_parts infoPat
 obtain ⟨i1,hj,hw0,hw1,hw2⟩:=info_parts infoRow
 have HCW:=Lib.hid (fun (q : Pt) (W : World) => rwild_any q W)
 unfold Pt.val at HCW
 go_enter Tryz.func42,Tryz.ntmps42
 go_wp2_with fail
 clear y0 y1 y2 z0 z1 z2 z3
 refine Calls.mono (HCW.out p _) ?_
 rintro e w1 ⟨rfl,hb1w⟩
 have HB1:=Lib.hid hb1w
 clear hb1w
 go_wp2_with fail
 go_loopw [38,9,10] (fun iv cv fv wr => ∃ (k : Nat) (Ac : Option Addr) (cc : Nat),iv = .int .i64 k ∧ cv = .slice Ac k cc ∧ fv = .bool (flatTo p rs k) ∧ k ≤ rs.length ∧ Hid (Below w.heap.size w wr) ∧ Hid (wr.ownsRow w.heap.size 28 4 (.slice Ac k cc) k (((headsTo rs k).map Pt.cells).flatten))) (fun iv _ _ _ => rs.length - (intOf iv).toNat)
 case atStart => exact ⟨0,none,0,rfl,rfl,by rw [flatTo_zero],Nat.zero_le _,HB1.out,World.ownsRow_nil _ _ _ _⟩
 case round =>
  obtain ⟨k,Ac,cc,rfl,rfl,rfl,hk,HB,HO⟩:=hrel
  by_cases hlt : k < rs.length
  ·obtain ⟨r,b0,off,hr,hmem,rfl,hb,x0⟩:=HRS.out.arg_at HB.out hlt
   obtain ⟨ra,rc,rp⟩:=r
   have hri:=HRS.out.each _ hmem
   obtain ⟨q,b2,off2,hq,hqm,hra,hb2,z0,z1,z2,z3⟩:=Pt.arg_at (k:=0) hri.1 HB.out (HNE.out _ hmem)
   simp only at hra
   subst hra
   have HSU:=Lib.hid (headsTo_succ hr hq)
   have HFS:=Lib.hid (flatTo_succ (p:=p) hr hq)
   have hs0:=HB.out.size
   have hpos:=HNE.out _ hmem
   have hrc : rp.length ≤ rc:=hri.2.2.1
   have HZ2:=Lib.hid (fun W (hW : Below w.heap.size w W) => (hri.2.1 q hqm).next hW)
   have HRW:=Lib.hid hri
   have HQ0:=Lib.hid hq
   simp only [Nat.zero_mul,Nat.add_zero] at z0 z1 z2 z3 hpos
   unfold Rw.val at x0
   clear hr hq hri
   go_wp2_with (at_builtin; go_must (refine wpList_append_own_at _ rfl (.tmp 42) (.tmp 46) 26 rfl w.heap.size 28 i0 _ 4 64 Tryz.underlying26 hi hz0 hz1 hz2 rfl (by decide) (.slice Ac k cc) k (((headsTo rs k).map Pt.cells).flatten) rfl ?hown ⟨wr.heap.size,0,none⟩ 1 1 q.cells rfl rfl ?c1 ?c2 ?c3 ?c4 ?c5 ?_))
   case hown => exact World.ownsRow.alloc HO.out _
   case c1 => exact fun j u hu => hu
   case c2 => simp [Value.oneCell',Pt.cells]
   case c3 => unfold maxLen; omega
   case c4 => omega
   case c5 => first | omega | (simp; omega)
   intro v' w2 hown hgrow _ _
   obtain ⟨A2',c2',rfl,-⟩:=row_slice hown
   have hbb : Below w.heap.size w w2:=(HB.out.alloc hs0 _).grown hgrow (by simp; omega) (fun i hi => (HO.out.lt i hi).1)
   have HB2:=Lib.hid hbb
   have HO2:=Lib.hid (show w2.ownsRow w.heap.size 28 4 (.slice A2' (k + 1) c2') (k + 1) (((headsTo rs (k + 1)).map Pt.cells).flatten) by
    rw [HSU.out,List.map_append,List.flatten_append]
    simpa using hown)
   obtain ⟨q',b3,off3,hq',-,hra3,hb3,z0',z1',z2',z3'⟩:=Pt.arg_at (k:=0) HRW.out.1 hbb hpos
   have hq2:=HQ0.out.symm.trans hq'
   simp only [Option.some.injEq] at hq2
   subst hq2
   simp only [Option.some.injEq,Addr.mk.injEq,and_true] at hra3
   obtain ⟨rfl,rfl⟩:=hra3
   simp only [Nat.zero_mul,Nat.add_zero] at z0' z1' z2' z3'
   have hbx:=hbb.size
   clear hown hgrow hbb x0 z0 z1 z2 z3 hq'
   cases hfl : flatTo p rs k
   case false =>
    rw [hfl] at HFS
    have HF2:=Lib.hid (show flatTo p rs (k + 1) = false by rw [HFS.out]; rfl)
    go_wp2_with fail
    exact ⟨⟨k + 1,A2',c2',by go_num,rfl,by rw [HF2.out],by omega,HB2.out,HO2.out⟩,by simp [intOf]; omega⟩
   case true =>
    rw [hfl] at HFS
    go_wp2_with fail
    refine Calls.mono (HCW.out _ _) ?_
    rintro e w3 ⟨rfl,hb3w⟩
    have HB3:=Lib.hid (HB2.out.trans (hb3w.mono HB2.out.size))
    have HO3:=Lib.hid (row_stays HO2.out fun i hi => hb3w.block i (HO2.out.lt i hi).2)
    clear hb3w
    go_wp2_with fail
    exact ⟨⟨k + 1,A2',c2',by go_num,rfl,by rw [HFS.out]; simp,by omega,HB3.out,HO3.out⟩,by simp [intOf]; omega⟩
  ·have hk2 : k = rs.length:=by omega
   subst hk2
   rw [HWILD.out]
   have HTAME:=Lib.hid (heads_tame HWILD.out HNE.out)
   have HPCOL:=Lib.hid (show p ∈ headsTo rs rs.length ++ [p] ∧ ∀ q r',q :: r' ∈ patsL rs → q ∈ headsTo rs rs.length ++ [p] from ⟨by simp,fun q r' hm => by
    obtain ⟨x,hx,he⟩:=List.mem_map.1 hm
    refine List.mem_append_left _ ?_
    unfold headsTo
    rw [List.take_length]
    exact List.mem_map.2 ⟨x,hx,by rw [he]; rfl⟩⟩)
   have HCOLIN:=Lib.hid (show ∀ q ∈ headsTo rs rs.length ++ [p],q.In w.heap.size w ∧ POk l t q from fun q hq => by
    rcases List.mem_append.1 hq with h | h
    ·unfold headsTo at h
     rw [List.take_length] at h
     obtain ⟨r,hr,rfl⟩:=List.mem_map.1 h
     have hn:=HNE.out r hr
     have hall:=(HRS.out.each r hr).2.1
     have hok:=H.out.rok r hr
     cases hp : r.pats with
     | nil => rw [hp] at hn; simp at hn
     | cons q0 qs0 =>
      rw [hp] at hok hall
      cases hok with
      | cons k1 _ => exact ⟨hall q0 (by simp),k1⟩
    ·simp only [List.mem_singleton] at h
     subst h
     have hok:=H.out.wok
     cases hok with
     | cons k1 _ => exact ⟨H.out.win.2.1 _ (by simp),k1⟩)
   have hop : opaqueT t = false:=by
    rcases HTAME.out with h | ⟨q,r,hm,hw⟩
    ·exact tame_clear (HCOLIN.out p HPCOL.out.1).2 h
    ·exact tame_clear (HCOLIN.out q (HPCOL.out.2 q r hm)).2 hw
   have HOKT:=Lib.hid (H.out.tok t (by simp))
   have HTI:=Lib.hid (H.out.tin.2.1 t (by simp))
   have hcl : (headsTo rs rs.length ++ [p]).length ≤ 1048576:=by simp [headsTo_len (Nat.le_refl _)]; omega
   have HHEADS:=Lib.hid (fun (W : World) (hW : Below w.heap.size w W) (Ac : Option Addr) (cc : Nat) (hrow : RowAt W.heap.size W 4 Ac ((headsTo rs rs.length ++ [p]).map Pt.cells)) => heads_any A l c t Ac (headsTo rs rs.length ++ [p]) cc W HR.out HOKT.out hop (H.out.us.next hW).dts H.out.dlen hrow (fun q hq => ⟨(HCOLIN.out q hq).1.next hW,(HCOLIN.out q hq).2.1⟩) hcl)
   have HFOK:=Lib.hid (fun (fs : List Form) (h : IsForms l t (headsTo rs rs.length ++ [p]) fs) => forms_ok HR.out HOKT.out h)
   have HU:=Lib.hid (fun (fs : List Form) (h : IsForms l t (headsTo rs rs.length ++ [p]) fs) => useful_forms l t ts (patsL rs) p ps fs (headsTo rs rs.length ++ [p]) (HFOK.out fs h) (fun r hr => by
    obtain ⟨x,hx,rfl⟩:=List.mem_map.1 hr
    exact H.out.rok x hx) H.out.wok HPCOL.out.1 HPCOL.out.2)
   have hcol : (headsTo rs rs.length ++ [p]).length = rs.length + 1:=by simp [headsTo_len (Nat.le_refl _)]
   rw [hcol] at HHEADS
   generalize hnl : headsTo rs rs.length ++ [p] = col at HHEADS HFOK HU
   have HNL:=Lib.hid hnl
   unfold Ty.val HeadsPost at HHEADS
   clear hnl hcl hop hcol HPCOL HCOLIN
   have HBX:=Lib.hid (fun (W : World) (hW : Below wr.heap.size wr W) => (show SUF bS A l.length c bt ot t b1 off1 p W from by
    have hw:=HB.out.trans (hW.mono HB.out.size)
    have hu:=H.out.us.next hw
    have hs:=hw.size
    exact ⟨hu.blk.cell 0,hu.blk.lt,by omega,by omega,HY.out W hw,HZ.out W hw⟩))
   go_wp2_with fail
   refine region_mix (SUF bS A l.length c bt ot t b1 off1 p) [(0,true),(1,true),(2,true),(3,true),(4,true),(5,true),(6,true),(7,true),(8,true),(9,true),(10,true),(15,true),(11,false),(12,false),(13,false),(14,false)] 16 (by kernel_rfl) (by kernel_rfl) (HBX.out _ (Below.refl _ _).drew) ?_
   simp only [pickM,List.filterMap_cons,List.getElem?_cons_zero,List.getElem?_cons_succ,List.filterMap_nil,Option.map_some]
   iterate 12
    refine wpMix_read ?_ (by rfl) (fun W hW => ?_) ?_
    rotate_left
    ·unfold SUF at hW
     go_simp
     try with_reducible rfl
    simp only [Act.put,List.setIfInBounds_toArray,List.set_cons_zero,List.set_cons_succ]
   have HD:=Lib.hid (Below.refl wr.heap.size wr).drew
   have HOD:=Lib.hid (row_stays HO.out fun i hi => HD.out.block i (HO.out.lt i hi).2)
   generalize wr.drew = wd at HD HOD ⊢
   refine wpMix_step rfl (fun K hK => ?_)
   go_simp
   have HDA:=Lib.hid (HD.out.alloc HD.out.size (.cells #[.string p.dof,.string p.name,.int .i64 p.num,.slice p.at_ p.args.length p.cap] 28))
   have HOA:=Lib.hid (World.ownsRow.alloc HOD.out (.cells #[.string p.dof,.string p.name,.int .i64 p.num,.slice p.at_ p.args.length p.cap] 28))
   have HNEW : Hid (∀ (j : Nat) (u : Value),p.cells[j]? = some u → (wd.alloc (.cells #[.string p.dof,.string p.name,.int .i64 p.num,.slice p.at_ p.args.length p.cap] 28)).cell? ((⟨wd.heap.size,0,none⟩ : Addr).add j) = some u):=Lib.hid (World.news_of_block (heap_alloc_new wd _))
   refine hK _ _ (fun _ => HBX.out _ HDA.out) ?_
   clear hK K
   have hwds:=HD.out.size
   generalize hwa : wd.alloc (.cells #[.string p.dof,.string p.name,.int .i64 p.num,.slice p.at_ p.args.length p.cap] 28) = wa at HDA HOA HNEW ⊢
   have hwas : w.heap.size ≤ wa.heap.size:=by have:=HDA.out.size; have:=HB.out.size; omega
   clear hwa
   refine wpMix_step rfl (fun K hK => ?_)
   refine wp_append_lies _ (.tmp 97) (.tmp 101) 26 rfl w.heap.size 28 i0 _ 4 64 Tryz.underlying26 hi hz0 hz1 hz2 rfl (by decide) (.slice Ac rs.length cc) rs.length (((headsTo rs rs.length).map Pt.cells).flatten) (by simp [Act.eval,Act.put]) HOA.out ⟨wd.heap.size,0,none⟩ 1 1 p.cells (by simp [Act.eval,Act.put]) rfl HNEW.out (by simp [Value.oneCell',Pt.cells]) (by omega) (by unfold maxLen; omega) (by omega) hwas _ rfl ?_
   intro g2 c4 w2 hown hgrow hat hlt2
   have HB2:=Lib.hid (show Below w.heap.size w w2 from (HB.out.trans (HDA.out.mono HB.out.size)).grown hgrow hwas (fun j hj => (HOA.out.lt j hj).1))
   have HO2:=Lib.hid (show RowAt w2.heap.size w2 4 (some ⟨g2,0,none⟩) (col.map Pt.cells) by
    rw [← HNL.out]
    have h9 : w2.ownsRow w.heap.size 28 4 (.slice (some ⟨g2,0,none⟩) (headsTo rs rs.length ++ [p]).length c4) (headsTo rs rs.length ++ [p]).length (((headsTo rs rs.length ++ [p]).map Pt.cells).flatten):=by
     have e : (headsTo rs rs.length ++ [p]).length = rs.length + 1:=by simp [headsTo_len (Nat.le_refl _)]
     rw [e,List.map_append,List.flatten_append]
     simpa using hown
    exact PatsO.row h9)
   have HBX2:=Lib.hid (fun (W : World) (hW : Below w2.heap.size w2 W) => (show SUF bS A l.length c bt ot t b1 off1 p W from by
    have hw:=HB2.out.trans (hW.mono HB2.out.size)
    have hu:=H.out.us.next hw
    have hs:=hw.size
    exact ⟨hu.blk.cell 0,hu.blk.lt,by omega,by omega,HY.out W hw,HZ.out W hw⟩))
   refine hK _ _ (fun _ => HBX2.out _ (Below.refl _ _)) ?_
   clear hK K hown hgrow hat hlt2
   refine wpMix_step rfl (fun K hK => ?_)
   go_simp
   refine Calls.mono (HHEADS.out _ HB2.out (some ⟨g2,0,none⟩) c4 HO2.out) ?_
   rintro e w3 ⟨hb3,Af,cf,hs,fs,rfl,hrowf,hfin,hfl,hisf,hf2⟩
   have HB3:=Lib.hid (HB2.out.trans (hb3.mono HB2.out.size))
   have HROWF:=Lib.hid hrowf
   have HFIN:=Lib.hid hfin
   have HFO:=Lib.hid (HFOK.out _ hisf)
   have HUF:=Lib.hid (HU.out _ hisf)
   have HF2:=Lib.hid hf2
   have HISF:=Lib.hid hisf
   have HS9:=Lib.hid (HBX2.out _ hb3)
   clear hb3 hrowf hfin hisf hf2 HU HFOK HHEADS
   refine hK _ _ (fun _ => HS9.out) ?_
   clear hK K
   refine wpMix_step rfl (fun K hK => ?_)
   go_simp
   refine hK _ _ (fun _ => HS9.out) ?_
   clear hK K
   refine wpMix_nil ?_
   refine NoPanic.normal ?_
   clear HBX HBX2 HS9 HD HOD HDA HOA HNEW HO2
   obtain ⟨i2,hk0,hv0,hv1,hv2⟩:=info_parts infoTy
   go_wp2_with fail
   go_loopw [105] (fun iv wr => ∃ k : Nat,iv = .int .i64 k ∧ k ≤ hs.length ∧ Hid (Below w3.heap.size w3 wr) ∧ Hid (∀ f ∈ fs.take k,NoForm l ts (patsL rs) (p :: ps) f)) (fun iv _ => hs.length - (intOf iv).toNat)
   case atStart => exact ⟨0,rfl,Nat.zero_le _,Lib.hid (Below.refl _ _),Lib.hid (by simp)⟩
   case round =>
    obtain ⟨k,rfl,hk,HS,HNF⟩:=hrel
    by_cases hlt : k < hs.length
    ·obtain ⟨h,bh,oh,hq,hmem,rfl,hbh,x0,x1,x2,x3⟩:=Pt.arg_at HROWF.out HS.out hlt
     obtain ⟨f,hf,hho⟩:=F2.get HF2.out k h hq
     have hfm : f ∈ fs:=List.mem_of_getElem? hf
     have HTK:=Lib.hid (take_snoc hf)
     have HFM:=Lib.hid hfm
     have HF1:=Lib.hid (HFO.out.each f hfm)
     have HHO:=Lib.hid hho
     have HBW:=Lib.hid (HB3.out.trans (HS.out.mono HB3.out.size))
     have HHN:=Lib.hid (show h.name.size ≤ 1099511627776 by
      have h9:=HFIN.out h hmem
      obtain ⟨d9,s9,n9,a9,c9,l9⟩:=h
      exact (Pt.In_mk.1 h9).2.1)
     have HOA:=Lib.hid (fun (W : World) (hW : Below w.heap.size w W) (b o c : Nat) (q : Pt) (qs : List Pt) (hin : Rw.In w.heap.size w ⟨some ⟨b,o,none⟩,c,q :: qs⟩) (hok : POks l (t :: ts) (q :: qs)) => under_any h f hho.head hho.len hho.two b o c q qs W (Rw.In.wider (Rw.In.keep hin hW) hW.size) (by
      have h1:=hok.length
      simp only [List.length_cons] at h1
      cases hok with
      | cons k1 k2 => have:=well_args k1.1; omega))
     have hbh3 : bh < wr.heap.size:=Nat.lt_of_lt_of_le hbh HS.out.size
     obtain ⟨wx,rfl⟩ : ∃ wx : World,wx = wr:=⟨_,rfl⟩
     have HBB:=Lib.hid ((Below.refl wx.heap.size wx).alloc (Nat.le_refl _) (.cells #[.string h.dof,.string h.name,.int .i64 h.num,.slice h.at_ h.args.length h.cap] 28))
     have HKX:=Lib.hid (Blk.new wx #[.string h.dof,.string h.name,.int .i64 h.num,.slice h.at_ h.args.length h.cap] 28)
     have HSX:=Lib.hid (HS.out.trans (HBB.out.mono HS.out.size))
     unfold Pt.val at HOA
     clear hq hmem hbh hf hfm hho
     go_wp2_with fail
     generalize wx.alloc (.cells #[.string h.dof,.string h.name,.int .i64 h.num,.slice h.at_ h.args.length h.cap] 28) = w0 at HBB HKX HSX ⊢
     have hb00 : w.heap.size ≤ w0.heap.size:=(HB3.out.trans (HSX.out.mono HB3.out.size)).size
     refine Calls.mono (HOA.out w0 (HB3.out.trans (HSX.out.mono HB3.out.size)) b1 off1 cr p ps H.out.win H.out.wok) ?_
     rintro e w4 ⟨hb4,hres⟩
     have HS4:=Lib.hid (HSX.out.trans (hb4.mono HSX.out.size))
     have HKX4:=Lib.hid (HKX.out.below hb4 HKX.out.lt)
     have HBW4:=Lib.hid (HB3.out.trans (HS4.out.mono HB3.out.size))
     clear hb4
     generalize hon : opened f (p :: ps) = on at hres
     have HON:=Lib.hid hon
     clear hon x0 x1 x2 x3
     obtain ⟨x0,x1,x2,x3⟩:=HKX4.out.four
     have xl:=HKX4.out.lt
     cases on
     case none =>
      simp only at hres
      subst hres
      go_wp2_with fail
      refine ⟨⟨k + 1,by go_num,by omega,HS4,Lib.hid ?_⟩,by simp [intOf]; omega⟩
      rw [HTK.out]
      intro g hg
      rcases List.mem_append.1 hg with h | h
      ·exact HNF.out g h
      ·simp only [List.mem_singleton] at h
       subst h
       rintro ⟨nx,h1,-⟩
       rw [HON.out] at h1
       cases h1
     case some next =>
      simp only at hres
      obtain ⟨vn,rfl,An,cn,rfl,hown4⟩:=hres
      have HO4:=Lib.hid hown4
      clear hown4
      go_wp2_with fail
      go_loopw [119,20] (fun iv ov wr => ∃ (j : Nat) (A : Option Addr) (c : Nat) (acc : List Rw),iv = .int .i64 j ∧ j ≤ rs.length ∧ ov = .slice A acc.length c ∧ acc.length ≤ j ∧ Hid (Below w4.heap.size w4 wr) ∧ Hid (wr.ownsRow w4.heap.size 26 1 (.slice A acc.length c) acc.length (acc.map Rw.val)) ∧ Hid (∀ r ∈ acc,OwnRw w4 wr r) ∧ Hid (patsL acc = (patsL (rs.take j)).filterMap (opened f))) (fun iv _ _ => rs.length - (intOf iv).toNat)
      case atStart => exact ⟨0,none,0,[],rfl,Nat.zero_le _,rfl,Nat.le_refl _,Lib.hid (Below.refl _ _),Lib.hid (World.ownsRow_nil _ _ _ _),Lib.hid (fun r hr => by cases hr),Lib.hid rfl⟩
      case round =>
       obtain ⟨j,Aa,ca,acc,rfl,hjl,rfl,haj,HB,HO,HOR,HPA⟩:=hrel
       have hs0:=HB.out.size
       have HKW:=Lib.hid (HKX4.out.below HB.out HKX4.out.lt)
       have HSJ:=Lib.hid (HBW4.out.trans (HB.out.mono HBW4.out.size))
       clear x0 x1 x2 x3 xl
       obtain ⟨x0,x1,x2,x3⟩:=HKW.out.four
       have xl:=HKW.out.lt
       by_cases hlt2 : j < rs.length
       ·obtain ⟨r,b0,off,hr,hmem,rfl,hb,z0⟩:=HRS.out.arg_at HSJ.out hlt2
        have HTS:=Lib.hid (filter_snoc (f:=f) hr)
        obtain ⟨ra,rc,rp⟩:=r
        cases rp with
        | nil => exact absurd (HNE.out _ hmem) (by simp)
        | cons q qs =>
        have hri:=HRS.out.each _ hmem
        obtain ⟨b2,off2,rfl,hb2⟩:=hri.some
        have HRI:=Lib.hid hri
        have HRK:=Lib.hid (H.out.rok _ hmem)
        unfold Rw.val at z0
        simp only [List.length_cons] at z0
        clear hr hri hmem hb2
        go_wp2_with fail
        refine Calls.mono (HOA.out wr HSJ.out b2 off2 rc q qs HRI.out HRK.out) ?_
        rintro e w5 ⟨hb5,hres⟩
        have HB5:=Lib.hid (HB.out.trans (hb5.mono hs0))
        have HO5:=Lib.hid (row_stays HO.out fun i hi => hb5.block i (HO.out.lt i hi).2)
        have HOR5:=Lib.hid (fun r hr => (HOR.out r hr).below hb5)
        generalize hoq : opened f (q :: qs) = oq at hres HTS
        have HOQ:=Lib.hid hoq
        clear hoq hb5 z0
        cases oq
        case none =>
         simp only at hres
         subst hres
         simp only [List.append_nil] at HTS
         clear x0 x1 x2 x3 xl
         go_wp2_with fail
         exact ⟨⟨j + 1,Aa,ca,acc,by go_num,by omega,rfl,by omega,HB5.out,HO5.out,HOR5.out,Lib.hid (by rw [HTS.out]; exact HPA.out)⟩,by simp [intOf]; omega⟩
        case some oq =>
         simp only at hres
         obtain ⟨vq,rfl,Aq,cq,rfl,hownq⟩:=hres
         have HOQW:=Lib.hid (show OwnRw w4 w5 ⟨Aq,cq,oq⟩ from ⟨own_wide hownq hs0,opened_in (fun q' hq' => Pt.In.next (HRI.out.2.1 q' hq') HBW4.out) HOQ.out⟩)
         clear hownq x0 x1 x2 x3 xl
         go_wp2_with (at_builtin; go_must (refine wpList_append_own_at _ rfl (.tmp 130) (.tmp 132) 80 rfl w4.heap.size 26 i1 _ 1 24 Tryz.underlying80 hj hw0 hw1 hw2 rfl (by decide) (.slice Aa acc.length ca) acc.length (acc.map Rw.val) rfl ?ia0 ⟨w5.heap.size,0,none⟩ 1 1 [.slice Aq oq.length cq] rfl rfl ?ia1 ?ia2 ?ia3 ?ia4 ?ia5 ?_))
         case ia0 => exact World.ownsRow.alloc HO5.out _
         case ia1 => exact World.news_of_block (heap_alloc_new w5 _)
         case ia2 => simp [Value.oneCell']
         case ia3 => unfold maxLen; omega
         case ia4 => omega
         case ia5 => have:=HB5.out.size; simp; omega
         intro v' w6 hown hgrow _ _
         obtain ⟨A6,c6,rfl,-⟩:=row_slice hown
         have hb6 : Below w4.heap.size w4 w6:=(HB5.out.alloc HB5.out.size _).grown hgrow (by have:=HB5.out.size; simp; omega) (fun i hi => (HO5.out.lt i hi).1)
         have hbb : Below w5.heap.size w5 (w5.alloc (.cells #[.slice Aq oq.length cq] 26)):=(Below.refl _ _).alloc (Nat.le_refl _) _
         have hkeep : ∀ r,OwnRw w4 w5 r → OwnRw w4 w6 r:=fun r hr => (hr.below hbb).grown (World.ownsRow.alloc HO5.out _) hgrow
         have HB6:=Lib.hid hb6
         have HO6:=Lib.hid hown
         have HKEEP:=Lib.hid hkeep
         clear hown hgrow hb6 hkeep hbb
         go_wp2_with fail
         refine ⟨⟨j + 1,A6,c6,acc ++ [⟨Aq,cq,oq⟩],by go_num,by omega,by simp,by simp; omega,HB6.out,Lib.hid ?_,Lib.hid ?_,Lib.hid ?_⟩,by simp [intOf]; omega⟩
         ·rw [List.length_append,List.map_append]
          exact HO6.out
         ·intro r hr
          rcases List.mem_append.1 hr with h | h
          ·exact HKEEP.out r (HOR5.out r h)
          ·simp only [List.mem_singleton] at h
           subst h
           exact HKEEP.out _ HOQW.out
         ·rw [HTS.out,← HPA.out]
          unfold patsL
          rw [List.map_append]
          rfl
       ·have hj2 : j = rs.length:=by omega
        subst hj2
        have hpa:=HPA.out
        rw [List.take_length] at hpa
        have HPA2:=Lib.hid hpa
        clear hpa x0 x1 x2 x3 xl
        have HTY:=Lib.hid (show f.types = partsD l t h.dof h.name from HHO.out.parts)
        have HFTI:=Lib.hid (show ∀ u ∈ f.types,u.In w.heap.size w by
         rw [HTY.out]
         exact parts_in H.out.us.dts HTI.out h.dof h.name)
        have hf2 : f.types.length ≤ 2:=HHO.out.two
        have HPARTS:=Lib.hid (fun (W : World) (hW : Below w.heap.size w W) => (show Calls Tryz.prog 51 #[.slice A l.length c,.agg #[.string t.dof,.string t.name,.slice t.at_ t.args.length t.cap],.agg #[.string h.dof,.string h.name,.int .i64 h.num,.slice h.at_ h.args.length h.cap]] W (PartsP f.types W) by
         rw [HTY.out]
         obtain ⟨d9,s9,n9,a9,c9,l9⟩:=h
         exact rparts_any A l c t d9 s9 n9 a9 c9 l9 W (H.out.us.dts.next hW) (HTI.out.next hW) (fun hc => by
          have hd9:=forms_cons HISF.out HFM.out (by rw [← HHO.out.head.1]; exact hc)
          obtain ⟨t0,ht0⟩:=list_args HOKT.out hd9
          rw [ht0]
          rfl) HHN.out))
        have HBOX:=Lib.hid (fun (W : World) (hW : Below wr.heap.size wr W) => (show SUP bS A l.length c bt ot t wx.heap.size h W from by
         have hw:=HSJ.out.trans (hW.mono HSJ.out.size)
         have hu:=H.out.us.next hw
         have hz:=hw.size
         have k1:=HKW.out.below hW HKW.out.lt
         exact ⟨hu.blk.cell 0,hu.blk.lt,by omega,k1.lt,HY.out W hw,k1.cell 0,k1.cell 1,k1.cell 2,k1.cell 3⟩))
        have HD:=Lib.hid (Below.refl wr.heap.size wr).drew
        go_wp2_with fail
        refine region_ord (SUP bS A l.length c bt ot t wx.heap.size h) (.read 1 (.read 2 (.read 3 (.read 4 (.read 5 (.read 6 (.read 7 (.read 8 (.two 0 (.one 9 (.one 10 (.one 11 .done))) 9 (.one 0 (.one 10 (.one 11 .done)))))))))))) (by kernel_rfl) (by kernel_rfl) (HBOX.out _ HD.out) ?_
        generalize wr.drew = wd at HD ⊢
        iterate 8
         refine wpOrd_read _ ?_ rfl (by rfl) (fun W hW => ?_) ?_
         rotate_left
         ·unfold SUP at hW
          go_simp
          try with_reducible rfl
         simp only [Act.put,List.setIfInBounds_toArray,List.set_cons_zero,List.set_cons_succ]
        have HSD:=Lib.hid (HSJ.out.trans (HD.out.mono HSJ.out.size))
        refine wpOrd_two ?_ ?_
        ·refine stepAt_of _ rfl rfl (fun K hK => ?_)
         go_simp
         have HZO:=Lib.hid (own_zero wd wr.heap.size HD.out.size)
         have HBZ:=Lib.hid (HD.out.alloc HD.out.size (.cells #[] 25))
         have HSZ:=Lib.hid (HSD.out.alloc HSD.out.size (.cells #[] 25))
         refine hK _ _ ⟨HBOX.out _ HBZ.out, ?_⟩
         clear hK K
         generalize wd.alloc (.cells #[] 25) = wz at HZO HBZ HSZ ⊢
         refine wpOrd_one ?_
         refine stepAt_of _ rfl rfl (fun K hK => ?_)
         go_simp
         refine Calls.mono (HPARTS.out _ HSZ.out) ?_
         rintro e w7 ⟨hb7,Ap,cp,rfl,hrow7,hno7,hle7⟩
         have HB7:=Lib.hid (HBZ.out.trans (hb7.mono HBZ.out.size))
         have HZ7:=Lib.hid (row_stays HZO.out fun i hi => hb7.block i (HZO.out.lt i hi).2)
         have HR7:=Lib.hid hrow7
         clear hb7 hrow7
         refine hK _ _ ⟨HBOX.out _ HB7.out, ?_⟩
         clear hK K
         refine wpOrd_one ?_
         refine stepAt_of _ rfl rfl (fun K hK => ?_)
         refine wp_append_rowat (.tmp 135) (.tmp 144) 23 rfl wr.heap.size 25 i2 _ 3 56 Tryz.underlying23 hk0 hv0 hv1 hv2 rfl (by decide) (.slice (some ⟨wd.heap.size,0,none⟩) 0 0) 0 [] (by simp [Act.eval,Act.put]) HZ7.out w7.heap.size Ap (f.types.map Ty.cells) cp (by rw [List.length_map]; simp [Act.eval,Act.put]) hno7 HR7.out (by rw [List.length_map]; exact hle7) ?_ ?_ (by rw [List.length_map]; unfold maxLen; omega) (by rw [List.length_map]; omega) HB7.out.size ?_
         ·intro y hy
          obtain ⟨q,-,rfl⟩:=List.mem_map.1 hy
          rfl
         ·intro y hy u hu
          obtain ⟨q,-,rfl⟩:=List.mem_map.1 hy
          simp only [Ty.cells,List.mem_cons,List.not_mem_nil,or_false] at hu
          rcases hu with rfl | rfl | rfl <;> rfl
         intro v' w8 hown hgrow
         have hown' : w8.ownsRow wr.heap.size 25 3 v' f.types.length ((f.types.map Ty.cells).flatten):=by simpa using hown
         obtain ⟨A8,c8,rfl,-⟩:=row_slice hown'
         have HB8:=Lib.hid (HB7.out.grown hgrow HB7.out.size (fun i hi => (HZ7.out.lt i hi).1))
         have HO8:=Lib.hid hown'
         clear hown hgrow hown' HR7
         refine hK _ _ ⟨HBOX.out _ HB8.out, ?_⟩
         clear hK K
         refine wpOrd_one ?_
         refine stepAt_of _ rfl rfl (fun K hK => ?_)
         go_simp
         refine hK _ _ ⟨HBOX.out _ HB8.out, ?_⟩
         clear hK K
         refine wpOrd_done ?_
         refine NoPanic.normal ?_
         have HSW8:=Lib.hid (HSJ.out.trans (HB8.out.mono HSJ.out.size))
         have HTAIL:=Lib.hid (Rt.In.wider (Rt.In.keep (tail_ty H.out.tin) HSW8.out) HSW8.out.size)
         by_cases hc1 : ct = 1
         ·subst hc1
          have HTL:=Lib.hid (show ts.length ≤ 0 by omega)
          rw [if_pos rfl] at HTAIL
          have HTR:=Lib.hid HTAIL.out.1
          go_wp2_with (at_builtin; go_must (refine append_rowat rfl (.tmp 149) (.tmp 151) 23 rfl wr.heap.size 25 i2 _ 3 56 Tryz.underlying23 hk0 hv0 hv1 hv2 rfl (by decide) (.slice A8 f.types.length c8) f.types.length ((f.types.map Ty.cells).flatten) rfl HO8.out w8.heap.size (some ⟨bt,ot,none⟩) (ts.map Ty.cells) 0 ?hxPZz (fun h => by cases h) HTR.out ?hlPZz ?hkPZz ?hoPZz ?h6PZz ?hbPZz HB8.out.size ?_))
          try case hxPZz => have h9:=HTL.out; first | omega | (simp [Act.eval,Act.put]; omega)
          try case hlPZz => have h9:=HTL.out; first | omega | exact List.eq_nil_of_length_eq_zero (by omega) | (rw [List.length_map]; omega)
          try case hkPZz => intro y hy; first | rfl | (obtain ⟨q,-,rfl⟩:=List.mem_map.1 hy; rfl)
          try case hoPZz => intro y hy u hu; first | (simp only [Ty.cells,List.mem_cons,List.not_mem_nil,or_false] at hu; rcases hu with rfl | rfl | rfl <;> rfl) | (obtain ⟨q,-,rfl⟩:=List.mem_map.1 hy; simp only [Ty.cells,List.mem_cons,List.not_mem_nil,or_false] at hu; rcases hu with rfl | rfl | rfl <;> rfl)
          case h6PZz => (try rw [List.length_map]); unfold maxLen; omega
          case hbPZz => (try rw [List.length_map]); omega
          intro v9 w9 hown hgrow _
          have hown' : w9.ownsRow wr.heap.size 25 3 v9 (f.types.length + ts.length) (((f.types ++ ts).map Ty.cells).flatten):=by simpa using hown
          obtain ⟨A9,c9,rfl,-⟩:=row_slice hown'
          have HB9:=Lib.hid (HB8.out.grown hgrow HB8.out.size (fun i hi => (HO8.out.lt i hi).1))
          have HBZ9:=Lib.hid (HSJ.out.trans (HB9.out.mono HSJ.out.size))
          have HW9:=Lib.hid (HBW4.out.size)
          have HCALL:=Lib.hid (us_call HIH.out H.out HF1.out HFTI.out HON.out HBW4.out (own_wide HO4.out hb00) HB.out HO.out HOR.out HPA2.out haj HB9.out (f.types.length + ts.length) (by simp) hown' hf2 HN.out HTAME.out)
          clear hown hgrow hown'
          go_wp2_with fail
          refine Calls.mono HCALL.out ?_
          rintro e w10 ⟨hb10,b,rfl,hbu⟩
          have HB10:=Lib.hid (HBZ9.out.trans (hb10.mono HBZ9.out.size))
          have HBU:=Lib.hid hbu
          have HB10':=Lib.hid hb10
          clear hb10 hbu
          cases b
          case true =>
           have HYES:=Lib.hid (HUF.out.2 ⟨f,HFM.out,next,HON.out,HBU.out.1 rfl⟩)
           go_wp2_with fail
           exact bodyPost_ret (v:=.bool true) (by simp [results,Tryz.results42,go_sem]) rfl (UsPost.of HB10.out ⟨fun _ => HYES.out,fun _ => rfl⟩)
          case false =>
           have HNOF:=Lib.hid (show ¬Useful l (f.types ++ ts) ((patsL rs).filterMap (opened f)) next from fun h => (by have h9:=HBU.out.2 h; simp at h9))
           have HB310:=Lib.hid (HS4.out.trans ((HB.out.trans ((HB9.out.trans (HB10'.out.mono HB9.out.size)).mono HB.out.size)).mono HS4.out.size))
           go_wp2_with fail
           refine ⟨⟨k + 1,by go_num,by omega,HB310,Lib.hid ?_⟩,by simp [intOf]; omega⟩
           rw [HTK.out]
           intro g hg
           rcases List.mem_append.1 hg with h | h
           ·exact HNF.out g h
           ·simp only [List.mem_singleton] at h
            subst h
            rintro ⟨nx,h1,h2⟩
            rw [HON.out] at h1
            cases h1
            exact HNOF.out h2
         ·rw [if_neg hc1] at HTAIL
          have HTR:=Lib.hid HTAIL.out.1
          have htl : ts.length ≤ ct - 1:=by omega
          go_wp2_with (at_builtin; go_must (refine append_rowat rfl (.tmp 149) (.tmp 151) 23 rfl wr.heap.size 25 i2 _ 3 56 Tryz.underlying23 hk0 hv0 hv1 hv2 rfl (by decide) (.slice A8 f.types.length c8) f.types.length ((f.types.map Ty.cells).flatten) rfl HO8.out w8.heap.size (some ⟨bt,ot + 3,none⟩) (ts.map Ty.cells) (ct - 1) ?hxPNn (fun h => by cases h) HTR.out ?hlPNn ?hkPNn ?hoPNn ?h6PNn ?hbPNn HB8.out.size ?_))
          try case hxPNn => (try rw [List.length_map]); simp [Act.eval,Act.put,Nat.le_refl]
          try case hlPNn => (try rw [List.length_map]); omega
          try case hkPNn => intro y hy; first | rfl | (obtain ⟨q,-,rfl⟩:=List.mem_map.1 hy; rfl)
          try case hoPNn => intro y hy u hu; first | (simp only [Ty.cells,List.mem_cons,List.not_mem_nil,or_false] at hu; rcases hu with rfl | rfl | rfl <;> rfl) | (obtain ⟨q,-,rfl⟩:=List.mem_map.1 hy; simp only [Ty.cells,List.mem_cons,List.not_mem_nil,or_false] at hu; rcases hu with rfl | rfl | rfl <;> rfl)
          case h6PNn => (try rw [List.length_map]); unfold maxLen; omega
          case hbPNn => (try rw [List.length_map]); omega
          intro v9 w9 hown hgrow _
          have hown' : w9.ownsRow wr.heap.size 25 3 v9 (f.types.length + ts.length) (((f.types ++ ts).map Ty.cells).flatten):=by simpa using hown
          obtain ⟨A9,c9,rfl,-⟩:=row_slice hown'
          have HB9:=Lib.hid (HB8.out.grown hgrow HB8.out.size (fun i hi => (HO8.out.lt i hi).1))
          have HBZ9:=Lib.hid (HSJ.out.trans (HB9.out.mono HSJ.out.size))
          have HW9:=Lib.hid (HBW4.out.size)
          have HCALL:=Lib.hid (us_call HIH.out H.out HF1.out HFTI.out HON.out HBW4.out (own_wide HO4.out hb00) HB.out HO.out HOR.out HPA2.out haj HB9.out (f.types.length + ts.length) (by simp) hown' hf2 HN.out HTAME.out)
          clear hown hgrow hown'
          go_wp2_with fail
          refine Calls.mono HCALL.out ?_
          rintro e w10 ⟨hb10,b,rfl,hbu⟩
          have HB10:=Lib.hid (HBZ9.out.trans (hb10.mono HBZ9.out.size))
          have HBU:=Lib.hid hbu
          have HB10':=Lib.hid hb10
          clear hb10 hbu
          cases b
          case true =>
           have HYES:=Lib.hid (HUF.out.2 ⟨f,HFM.out,next,HON.out,HBU.out.1 rfl⟩)
           go_wp2_with fail
           exact bodyPost_ret (v:=.bool true) (by simp [results,Tryz.results42,go_sem]) rfl (UsPost.of HB10.out ⟨fun _ => HYES.out,fun _ => rfl⟩)
          case false =>
           have HNOF:=Lib.hid (show ¬Useful l (f.types ++ ts) ((patsL rs).filterMap (opened f)) next from fun h => (by have h9:=HBU.out.2 h; simp at h9))
           have HB310:=Lib.hid (HS4.out.trans ((HB.out.trans ((HB9.out.trans (HB10'.out.mono HB9.out.size)).mono HB.out.size)).mono HS4.out.size))
           go_wp2_with fail
           refine ⟨⟨k + 1,by go_num,by omega,HB310,Lib.hid ?_⟩,by simp [intOf]; omega⟩
           rw [HTK.out]
           intro g hg
           rcases List.mem_append.1 hg with h | h
           ·exact HNF.out g h
           ·simp only [List.mem_singleton] at h
            subst h
            rintro ⟨nx,h1,h2⟩
            rw [HON.out] at h1
            cases h1
            exact HNOF.out h2
        ·refine stepAt_of _ rfl rfl (fun K hK => ?_)
         go_simp
         refine Calls.mono (HPARTS.out _ HSD.out) ?_
         rintro e w6 ⟨hb7,Ap,cp,rfl,hrow7,hno7,hle7⟩
         have HB6:=Lib.hid (HD.out.trans (hb7.mono HD.out.size))
         refine hK _ _ ⟨HBOX.out _ HB6.out, ?_⟩
         clear hK K
         refine wpOrd_one ?_
         refine stepAt_of _ rfl rfl (fun K hK => ?_)
         go_simp
         have HZ7:=Lib.hid (own_zero w6 wr.heap.size HB6.out.size)
         have HB7:=Lib.hid (HB6.out.alloc HB6.out.size (.cells #[] 25))
         have HR7:=Lib.hid (RowAt.keep hrow7 ((Below.refl w6.heap.size w6).alloc (Nat.le_refl _) (.cells #[] 25)))
         clear hb7 hrow7
         refine hK _ _ ⟨HBOX.out _ HB7.out, ?_⟩
         clear hK K
         generalize w6.alloc (.cells #[] 25) = w7 at HZ7 HB7 HR7 ⊢
         refine wpOrd_one ?_
         refine stepAt_of _ rfl rfl (fun K hK => ?_)
         refine wp_append_rowat (.tmp 135) (.tmp 144) 23 rfl wr.heap.size 25 i2 _ 3 56 Tryz.underlying23 hk0 hv0 hv1 hv2 rfl (by decide) (.slice (some ⟨w6.heap.size,0,none⟩) 0 0) 0 [] (by simp [Act.eval,Act.put]) HZ7.out w6.heap.size Ap (f.types.map Ty.cells) cp (by rw [List.length_map]; simp [Act.eval,Act.put]) hno7 HR7.out (by rw [List.length_map]; exact hle7) ?_ ?_ (by rw [List.length_map]; unfold maxLen; omega) (by rw [List.length_map]; omega) HB7.out.size ?_
         ·intro y hy
          obtain ⟨q,-,rfl⟩:=List.mem_map.1 hy
          rfl
         ·intro y hy u hu
          obtain ⟨q,-,rfl⟩:=List.mem_map.1 hy
          simp only [Ty.cells,List.mem_cons,List.not_mem_nil,or_false] at hu
          rcases hu with rfl | rfl | rfl <;> rfl
         intro v' w8 hown hgrow
         have hown' : w8.ownsRow wr.heap.size 25 3 v' f.types.length ((f.types.map Ty.cells).flatten):=by simpa using hown
         obtain ⟨A8,c8,rfl,-⟩:=row_slice hown'
         have HB8:=Lib.hid (HB7.out.grown hgrow HB7.out.size (fun i hi => (HZ7.out.lt i hi).1))
         have HO8:=Lib.hid hown'
         clear hown hgrow hown' HR7
         refine hK _ _ ⟨HBOX.out _ HB8.out, ?_⟩
         clear hK K
         refine wpOrd_one ?_
         refine stepAt_of _ rfl rfl (fun K hK => ?_)
         go_simp
         refine hK _ _ ⟨HBOX.out _ HB8.out, ?_⟩
         clear hK K
         refine wpOrd_done ?_
         refine NoPanic.normal ?_
         have HSW8:=Lib.hid (HSJ.out.trans (HB8.out.mono HSJ.out.size))
         have HTAIL:=Lib.hid (Rt.In.wider (Rt.In.keep (tail_ty H.out.tin) HSW8.out) HSW8.out.size)
         by_cases hc1 : ct = 1
         ·subst hc1
          have HTL:=Lib.hid (show ts.length ≤ 0 by omega)
          rw [if_pos rfl] at HTAIL
          have HTR:=Lib.hid HTAIL.out.1
          go_wp2_with (at_builtin; go_must (refine append_rowat rfl (.tmp 149) (.tmp 151) 23 rfl wr.heap.size 25 i2 _ 3 56 Tryz.underlying23 hk0 hv0 hv1 hv2 rfl (by decide) (.slice A8 f.types.length c8) f.types.length ((f.types.map Ty.cells).flatten) rfl HO8.out w8.heap.size (some ⟨bt,ot,none⟩) (ts.map Ty.cells) 0 ?hxQZz (fun h => by cases h) HTR.out ?hlQZz ?hkQZz ?hoQZz ?h6QZz ?hbQZz HB8.out.size ?_))
          try case hxQZz => have h9:=HTL.out; first | omega | (simp [Act.eval,Act.put]; omega)
          try case hlQZz => have h9:=HTL.out; first | omega | exact List.eq_nil_of_length_eq_zero (by omega) | (rw [List.length_map]; omega)
          try case hkQZz => intro y hy; first | rfl | (obtain ⟨q,-,rfl⟩:=List.mem_map.1 hy; rfl)
          try case hoQZz => intro y hy u hu; first | (simp only [Ty.cells,List.mem_cons,List.not_mem_nil,or_false] at hu; rcases hu with rfl | rfl | rfl <;> rfl) | (obtain ⟨q,-,rfl⟩:=List.mem_map.1 hy; simp only [Ty.cells,List.mem_cons,List.not_mem_nil,or_false] at hu; rcases hu with rfl | rfl | rfl <;> rfl)
          case h6QZz => (try rw [List.length_map]); unfold maxLen; omega
          case hbQZz => (try rw [List.length_map]); omega
          intro v9 w9 hown hgrow _
          have hown' : w9.ownsRow wr.heap.size 25 3 v9 (f.types.length + ts.length) (((f.types ++ ts).map Ty.cells).flatten):=by simpa using hown
          obtain ⟨A9,c9,rfl,-⟩:=row_slice hown'
          have HB9:=Lib.hid (HB8.out.grown hgrow HB8.out.size (fun i hi => (HO8.out.lt i hi).1))
          have HBZ9:=Lib.hid (HSJ.out.trans (HB9.out.mono HSJ.out.size))
          have HW9:=Lib.hid (HBW4.out.size)
          have HCALL:=Lib.hid (us_call HIH.out H.out HF1.out HFTI.out HON.out HBW4.out (own_wide HO4.out hb00) HB.out HO.out HOR.out HPA2.out haj HB9.out (f.types.length + ts.length) (by simp) hown' hf2 HN.out HTAME.out)
          clear hown hgrow hown'
          go_wp2_with fail
          refine Calls.mono HCALL.out ?_
          rintro e w10 ⟨hb10,b,rfl,hbu⟩
          have HB10:=Lib.hid (HBZ9.out.trans (hb10.mono HBZ9.out.size))
          have HBU:=Lib.hid hbu
          have HB10':=Lib.hid hb10
          clear hb10 hbu
          cases b
          case true =>
           have HYES:=Lib.hid (HUF.out.2 ⟨f,HFM.out,next,HON.out,HBU.out.1 rfl⟩)
           go_wp2_with fail
           exact bodyPost_ret (v:=.bool true) (by simp [results,Tryz.results42,go_sem]) rfl (UsPost.of HB10.out ⟨fun _ => HYES.out,fun _ => rfl⟩)
          case false =>
           have HNOF:=Lib.hid (show ¬Useful l (f.types ++ ts) ((patsL rs).filterMap (opened f)) next from fun h => (by have h9:=HBU.out.2 h; simp at h9))
           have HB310:=Lib.hid (HS4.out.trans ((HB.out.trans ((HB9.out.trans (HB10'.out.mono HB9.out.size)).mono HB.out.size)).mono HS4.out.size))
           go_wp2_with fail
           refine ⟨⟨k + 1,by go_num,by omega,HB310,Lib.hid ?_⟩,by simp [intOf]; omega⟩
           rw [HTK.out]
           intro g hg
           rcases List.mem_append.1 hg with h | h
           ·exact HNF.out g h
           ·simp only [List.mem_singleton] at h
            subst h
            rintro ⟨nx,h1,h2⟩
            rw [HON.out] at h1
            cases h1
            exact HNOF.out h2
         ·rw [if_neg hc1] at HTAIL
          have HTR:=Lib.hid HTAIL.out.1
          have htl : ts.length ≤ ct - 1:=by omega
          go_wp2_with (at_builtin; go_must (refine append_rowat rfl (.tmp 149) (.tmp 151) 23 rfl wr.heap.size 25 i2 _ 3 56 Tryz.underlying23 hk0 hv0 hv1 hv2 rfl (by decide) (.slice A8 f.types.length c8) f.types.length ((f.types.map Ty.cells).flatten) rfl HO8.out w8.heap.size (some ⟨bt,ot + 3,none⟩) (ts.map Ty.cells) (ct - 1) ?hxQNn (fun h => by cases h) HTR.out ?hlQNn ?hkQNn ?hoQNn ?h6QNn ?hbQNn HB8.out.size ?_))
          try case hxQNn => (try rw [List.length_map]); simp [Act.eval,Act.put,Nat.le_refl]
          try case hlQNn => (try rw [List.length_map]); omega
          try case hkQNn => intro y hy; first | rfl | (obtain ⟨q,-,rfl⟩:=List.mem_map.1 hy; rfl)
          try case hoQNn => intro y hy u hu; first | (simp only [Ty.cells,List.mem_cons,List.not_mem_nil,or_false] at hu; rcases hu with rfl | rfl | rfl <;> rfl) | (obtain ⟨q,-,rfl⟩:=List.mem_map.1 hy; simp only [Ty.cells,List.mem_cons,List.not_mem_nil,or_false] at hu; rcases hu with rfl | rfl | rfl <;> rfl)
          case h6QNn => (try rw [List.length_map]); unfold maxLen; omega
          case hbQNn => (try rw [List.length_map]); omega
          intro v9 w9 hown hgrow _
          have hown' : w9.ownsRow wr.heap.size 25 3 v9 (f.types.length + ts.length) (((f.types ++ ts).map Ty.cells).flatten):=by simpa using hown
          obtain ⟨A9,c9,rfl,-⟩:=row_slice hown'
          have HB9:=Lib.hid (HB8.out.grown hgrow HB8.out.size (fun i hi => (HO8.out.lt i hi).1))
          have HBZ9:=Lib.hid (HSJ.out.trans (HB9.out.mono HSJ.out.size))
          have HW9:=Lib.hid (HBW4.out.size)
          have HCALL:=Lib.hid (us_call HIH.out H.out HF1.out HFTI.out HON.out HBW4.out (own_wide HO4.out hb00) HB.out HO.out HOR.out HPA2.out haj HB9.out (f.types.length + ts.length) (by simp) hown' hf2 HN.out HTAME.out)
          clear hown hgrow hown'
          go_wp2_with fail
          refine Calls.mono HCALL.out ?_
          rintro e w10 ⟨hb10,b,rfl,hbu⟩
          have HB10:=Lib.hid (HBZ9.out.trans (hb10.mono HBZ9.out.size))
          have HBU:=Lib.hid hbu
          have HB10':=Lib.hid hb10
          clear hb10 hbu
          cases b
          case true =>
           have HYES:=Lib.hid (HUF.out.2 ⟨f,HFM.out,next,HON.out,HBU.out.1 rfl⟩)
           go_wp2_with fail
           exact bodyPost_ret (v:=.bool true) (by simp [results,Tryz.results42,go_sem]) rfl (UsPost.of HB10.out ⟨fun _ => HYES.out,fun _ => rfl⟩)
          case false =>
           have HNOF:=Lib.hid (show ¬Useful l (f.types ++ ts) ((patsL rs).filterMap (opened f)) next from fun h => (by have h9:=HBU.out.2 h; simp at h9))
           have HB310:=Lib.hid (HS4.out.trans ((HB.out.trans ((HB9.out.trans (HB10'.out.mono HB9.out.size)).mono HB.out.size)).mono HS4.out.size))
           go_wp2_with fail
           refine ⟨⟨k + 1,by go_num,by omega,HB310,Lib.hid ?_⟩,by simp [intOf]; omega⟩
           rw [HTK.out]
           intro g hg
           rcases List.mem_append.1 hg with h | h
           ·exact HNF.out g h
           ·simp only [List.mem_singleton] at h
            subst h
            rintro ⟨nx,h1,h2⟩
            rw [HON.out] at h1
            cases h1
            exact HNOF.out h2
    ·have hk2 : k = hs.length:=by omega
     subst hk2
     have HNO:=Lib.hid (show ¬Useful l (t :: ts) (patsL rs) (p :: ps) from fun hu => by
      obtain ⟨f,hf,nx,h1,h2⟩:=HUF.out.1 hu
      exact HNF.out f (by rw [← F2.len HF2.out,List.take_length]; exact hf) ⟨nx,h1,h2⟩)
     go_wp2_with fail
     exact bodyPost_ret (v:=.bool false) (by simp [results,Tryz.results42,go_sem]) rfl (UsPost.of (HB3.out.trans (HS.out.mono HB3.out.size)) ⟨fun h => (by cases h),fun h => absurd h HNO.out⟩)
end Go.Proofs.YtjeggkfgdhepaaaGreatDoor

namespace Go.Proofs.YtjeggkfgdhepaaaGreatDoor
open Go.RowKit
open Go.Proofs
open Go.Maps
theorem rus_to (l : List Dt) (hr : Right l) (A : Option Addr) (c : Nat) (bs : List Bool) (g bS : Nat) (hinh : Inh l (someB l bs)) : ∀ n,n ≤ 100000 → UsTo l A c bs g bS n:=by
 intro n
 induction n with
 | zero =>
  intro _ tys A2 rows c2 row w h hn
  obtain ⟨At,ct,ts⟩:=tys
  cases ts with
  | nil => exact rus_nil l A c bs g bS At ct A2 rows c2 row w h
  | cons t ts => unfold sizeL at hn; simp only [List.length_cons] at hn; omega
 | succ n ih =>
  intro hle tys A2 rows c2 row w h hn
  obtain ⟨At,ct,ts⟩:=tys
  cases ts with
  | nil => exact rus_nil l A c bs g bS At ct A2 rows c2 row w h
  | cons t ts =>
   obtain ⟨Ar,cr,ps⟩:=row
   cases ps with
   | nil => have:=h.wok.length; simp at this
   | cons p ps =>
    obtain ⟨bt,ot,rfl,-⟩:=Rt.In.some h.tin
    obtain ⟨b1,o1,rfl,-⟩:=Rw.In.some h.win
    cases hw : flatTo p rows rows.length with
    | true => exact rus_wild l hr A c bs g bS hinh n (ih (by omega)) bt ot ct t ts A2 rows c2 b1 o1 cr p ps w h hn (by omega) hw
    | false => exact rus_forms l hr A c bs g bS hinh n (ih (by omega)) bt ot ct t ts A2 rows c2 b1 o1 cr p ps w h hn (by omega) hw
theorem rus_any (l : List Dt) (hr : Right l) (A : Option Addr) (c : Nat) (bs : List Bool) (g bS : Nat) (hinh : Inh l (someB l bs)) (tys : Rt) (A2 : Option Addr) (rows : List Rw) (c2 : Nat) (row : Rw) (w : World) (h : UsIn l A c bs g bS tys A2 rows row w) (hn : sizeL tys.tys (patsL rows) row.pats ≤ 100000) :
  Calls Tryz.prog 42 #[.pointer (some ⟨bS,0,none⟩),.slice A2 rows.length c2,row.val,tys.val] w (UsPost l tys.tys (patsL rows) row.pats w):=
 rus_to l hr A c bs g bS hinh 100000 (Nat.le_refl _) tys A2 rows c2 row w h hn
end Go.Proofs.YtjeggkfgdhepaaaGreatDoor

namespace Go.Proofs.YtjeggkfgdhepaaaGreatDoor
open Go.RowKit
open Go.Proofs
open Go.Maps
theorem rus_col (l : List Dt) (hr : Right l) (A : Option Addr) (c : Nat) (bs : List Bool) (g bS : Nat) (hinh : Inh l (someB l bs)) (t : Ty) (ht : okT l t) (col : List Pt) (p : Pt) (hcol : ∀ q ∈ col,POk l t q) (hp : POk l t p)
  (k : Nat) (hk : col.length = k) (hlen : k ≤ 1000) (hsz : sizeL [t] (oneCol col) [p] ≤ 100000) (W : World) (hU : UsAt l A c bs g bS W) (hdl : ∀ d ∈ l,d.cons.length ≤ 1048576) (htin : t.In W.heap.size W) (hin : ∀ q ∈ col,q.In W.heap.size W) (hpin : p.In W.heap.size W) (B bt bp : Nat) (A9 : Option Addr) (c9 : Nat)
  (kt : Blk W bt #[.string t.dof,.string t.name,.slice t.at_ t.args.length t.cap] 25) (kp : Blk W bp #[.string p.dof,.string p.name,.int .i64 p.num,.slice p.at_ p.args.length p.cap] 28) (ro : RowsO B W (.slice A9 k c9) col k) :
  Calls Tryz.prog 42 #[.pointer (some ⟨bS,0,none⟩),.slice A9 k c9,.slice (some ⟨bp,0,none⟩) 1 1,.slice (some ⟨bt,0,none⟩) 1 1] W (UsPost l [t] (oneCol col) [p] W):=by
 obtain ⟨rs,hrl,hri,hpats⟩:=rowsIn_all ro hk (by omega) hin
 have hin9 : UsIn l A c bs g bS ⟨some ⟨bt,0,none⟩,1,[t]⟩ A9 rs ⟨some ⟨bp,0,none⟩,1,[p]⟩ W:={
  us:=hU
  dlen:=hdl
  tin:=⟨row_ty1 kt kt.lt,fun u hu => by simp only [List.mem_cons,List.not_mem_nil,or_false] at hu; subst hu; exact htin,Nat.le_refl _,(show (1 : Nat) ≤ 9223372036854775807 by decide)⟩
  tok:=fun u hu => by simp only [List.mem_cons,List.not_mem_nil,or_false] at hu; subst hu; exact ht
  rin:=hri
  rok:=fun r hr => by
   have hm : r.pats ∈ oneCol col:=by rw [← hpats]; exact List.mem_map.2 ⟨r,hr,rfl⟩
   obtain ⟨q,hq,he⟩:=List.mem_map.1 hm
   rw [← he]
   exact .cons (hcol q hq) .nil
  rlen:=by omega
  win:=⟨row_pt1 kp kp.lt,fun x hx => by simp only [List.mem_cons,List.not_mem_nil,or_false] at hx; subst hx; exact hpin,Nat.le_refl _,(show (1 : Nat) ≤ 9223372036854775807 by decide)⟩
  wok:=.cons hp .nil }
 have h:=rus_any l hr A c bs g bS hinh ⟨some ⟨bt,0,none⟩,1,[t]⟩ A9 rs c9 ⟨some ⟨bp,0,none⟩,1,[p]⟩ W hin9 (by rw [hpats]; exact hsz)
 rw [hpats,hrl] at h
 exact h
theorem rus_one (l : List Dt) (A : Option Addr) (c : Nat) (bs : List Bool) (g bS : Nat) (hinh : Inh l (someB l bs)) (t : Ty) (Ap : Option Addr) (ps : List Pt) (ha : Asked l t ps) (k : Nat) (q : Pt) (hq : ps[k]? = some q) (W : World) (hi : AskIn W A l t Ap ps) (hU : UsAt l A c bs g bS W) (B bt bp : Nat) (A9 : Option Addr) (c9 : Nat)
  (kt : Blk W bt #[.string t.dof,.string t.name,.slice t.at_ t.args.length t.cap] 25) (kp : Blk W bp #[.string q.dof,.string q.name,.int .i64 q.num,.slice q.at_ q.args.length q.cap] 28) (ro : RowsO B W (.slice A9 k c9) (ps.take k) k) :
  Calls Tryz.prog 42 #[.pointer (some ⟨bS,0,none⟩),.slice A9 k c9,.slice (some ⟨bp,0,none⟩) 1 1,.slice (some ⟨bt,0,none⟩) 1 1] W fun e W' => Below W.heap.size W W' ∧ e = .returned (.bool (!idle l t ps k)):=by
 have hmem:=List.mem_of_getElem? hq
 have hkl:=(List.getElem?_eq_some_iff.1 hq).1
 have hl12:=ha.len
 refine Calls.mono (rus_col l ha.right A c bs g bS hinh t ha.ty (ps.take k) q (fun x hx => ha.pok x (List.mem_of_mem_take hx)) (ha.pok q hmem) k (by rw [List.length_take]; omega) (by omega) (size_one ha hq) W hU hi.dlen hi.ty (fun x hx => hi.pts.each x (List.mem_of_mem_take hx)) (hi.pts.each q hmem) B bt bp A9 c9 kt kp ro) ?_
 rintro e W' ⟨hb,b,rfl,hbu⟩
 refine ⟨hb, ?_⟩
 cases h : idle l t ps k with
 | false =>
  have : b = true:=hbu.2 (Classical.byContradiction fun hn => by rw [(idle_iff hq).2 hn] at h; cases h)
  rw [this]
  rfl
 | true =>
  have : b = false:=by
   cases b with
   | false => rfl
   | true => exact absurd (hbu.1 rfl) ((idle_iff hq).1 h)
  rw [this]
  rfl
theorem RowsO.snoc {B : Nat} {w5 : World} {ps : List Pt} {k : Nat} {rs : List Rw} {q : Pt} {b : Nat} {A5 : Option Addr} {c5 : Nat} (hrl : rs.length = k) (hone : ∀ i r,rs[i]? = some r → oneRow w5 ps i r) (hq : ps[k]? = some q) (hb : Blk w5 b #[.string q.dof,.string q.name,.int .i64 q.num,.slice q.at_ q.args.length q.cap] 28)
  (hown : w5.ownsRow B 26 1 (.slice A5 (k + 1) c5) (k + 1) (rs.map Rw.val ++ [.slice (some ⟨b,0,none⟩) 1 1])) : RowsO B w5 (.slice A5 (k + 1) c5) ps (k + 1):=by
 refine ⟨rs ++ [⟨some ⟨b,0,none⟩,1,[q]⟩],A5,c5,by simp; omega,rfl,by simpa [Rw.val] using hown,fun i r hi => ?_⟩
 by_cases hlt3 : i < rs.length
 ·rw [List.getElem?_append_left hlt3] at hi
  exact hone i r hi
 ·rw [List.getElem?_append_right (by omega)] at hi
  have hi0 : i - rs.length = 0:=by
   have:=(List.getElem?_eq_some_iff.1 hi).1
   simp at this
   omega
  rw [hi0] at hi
  simp only [List.getElem?_cons_zero,Option.some.injEq] at hi
  have hik : i = k:=by omega
  subst hi
  subst hik
  exact ⟨q,_,hq,rfl,hb⟩
theorem RowsO.take {B : Nat} {w : World} {v : Value} {l : List Pt} {k : Nat} (h : RowsO B w v l k) : RowsO B w v (l.take k) k:=by
 obtain ⟨rs,A,c,hrl,he,hown,hone⟩:=h
 refine ⟨rs,A,c,hrl,he,hown,fun i r hi => ?_⟩
 obtain ⟨q,b,h1,h2,h3⟩:=hone i r hi
 have:=(List.getElem?_eq_some_iff.1 hi).1
 exact ⟨q,b,by rw [List.getElem?_take_of_lt (by omega)]; exact h1,h2,h3⟩
end Go.Proofs.YtjeggkfgdhepaaaGreatDoor

namespace Go.Proofs.YtjeggkfgdhepaaaGreatDoor
open Go.RowKit
open Go.Proofs
open Go.Maps
theorem own_own_ne {w : World} {B B2 n n2 size size2 : Nat} {v v2 : Value} {xs xs2 : List Value} {e e2 : TypeId} (h1 : w.ownsRow B e size v n xs) (h2 : w.ownsRow B2 e2 size2 v2 n2 xs2) (hne : e ≠ e2) : ∀ i,v.ownBlock = some i → v2.ownBlock ≠ some i:=by
 intro i k1 k2
 rcases h1.2 with ⟨rfl,-⟩ | ⟨g,cap,cur,rfl,-,hg,-⟩
 ·cases k1
 ·rcases h2.2 with ⟨rfl,-⟩ | ⟨g2,cap2,cur2,rfl,-,hg2,-⟩
  ·cases k2
  ·simp only [Value.ownBlock,Option.some.injEq] at k1 k2
   subst k1
   subst k2
   rw [hg] at hg2
   simp only [Option.some.injEq,Obj.cells.injEq] at hg2
   exact hne hg2.2.1
theorem row_grown {w w' : World} {B B2 n n2 size size2 : Nat} {v v2 : Value} {xs xs2 : List Value} {e e2 : TypeId} (h2 : w.ownsRow B2 e2 size2 v2 n2 xs2) (h1 : w.ownsRow B e size v n xs) (hg : w.grownBy w' v.ownBlock) (hne : e ≠ e2) : w'.ownsRow B2 e2 size2 v2 n2 xs2:=
 row_stays h2 fun i hi => hg.block i (h2.lt i hi).2 (fun e9 => own_own_ne h1 h2 hne i e9.symm hi)
theorem RowsO.grown {B B2 n size : Nat} {w w' : World} {v v2 : Value} {xs : List Value} {e : TypeId} {l : List Pt} {k : Nat} (h : RowsO B w v l k) (h1 : w.ownsRow B2 e size v2 n xs) (hg : w.grownBy w' v2.ownBlock) (hne : e ≠ 26) (hne2 : 28 ≠ e) : RowsO B w' v l k:=by
 obtain ⟨rs,A,c,hrl,he,hown,hone⟩:=h
 refine ⟨rs,A,c,hrl,he,row_grown hown h1 hg hne,fun i r hi => ?_⟩
 obtain ⟨q,b,h4,h5,h3⟩:=hone i r hi
 exact ⟨q,b,h4,h5,(hg.block b h3.lt (own_ne h1 h3 hne2).symm).trans h3⟩
set_option maxRecDepth 100000 in
set_option maxHeartbeats 8000000 in
theorem ruseless_any (A : Option Addr) (l : List Dt) (c : Nat) (t : Ty) (Ap : Option Addr) (ps : List Pt) (cp : Nat) (w : World) (h : AskIn w A l t Ap ps) (hcnt : t.count ≤ 1048576) (hcc : ∀ d ∈ l,∀ x ∈ d.cons,x.ty.count ≤ 1048576) :
  Calls Tryz.prog 24 #[.slice A l.length c,t.val,.slice Ap ps.length cp] w (UselessPost l t ps w):=by
 have H:=Lib.hid h
 have HP:=Lib.hid h.pts
 have HAQ:=Lib.hid (asked_iff (l:=l) (t:=t) h.count)
 have HASK:=Lib.hid (fun (W : World) (hW : Below w.heap.size w W) => rasked_any A l c t Ap ps cp W (h.env.next hW) (h.dts.next hW) (h.ty.at_ hW hW.size) (h.pts.at_ hW hW.size) hcnt hcc h.count)
 obtain ⟨i0,hi,hz0,hz1,hz2⟩:=info_parts infoInt
 obtain ⟨i1,hj,hw0,hw1,hw2⟩:=info_parts infoRow
 clear h hcnt hcc
 have HB0:=Lib.hid ((Below.refl w.heap.size w).alloc (Nat.le_refl _) (.cells #[.string t.dof,.string t.name,.slice t.at_ t.args.length t.cap] 25))
 have K0:=Lib.hid (Blk.new w #[.string t.dof,.string t.name,.slice t.at_ t.args.length t.cap] 25)
 unfold Ty.val at *
 go_enter Tryz.func24,Tryz.ntmps24
 go_wp2_with fail
 refine Calls.mono (HASK.out _ HB0.out) ?_
 rintro e w1 ⟨rfl,hb1⟩
 by_cases hne : askedErr l t ps = 0
 case neg =>
  have HB1:=Lib.hid (HB0.out.trans (hb1.mono HB0.out.size))
  have HNE:=Lib.hid hne
  have hne2 : (askedErr l t ps == 0) = false:=by simpa using hne
  generalize hq : askedErr l t ps = er at *
  have HQ:=Lib.hid hq
  clear hb1 hne hq
  go_wp2_with fail
  exact bodyPost_ret (v:=.tuple #[.slice none 0 0,.int .i64 er]) (by simp [results,Tryz.results24,go_sem]) rfl ⟨HB1.out,.inr ⟨by rw [HQ.out]; exact HNE.out,by rw [HQ.out]⟩⟩
 have HASKED:=Lib.hid (HAQ.out.1 hne)
 have HNIL:=Lib.hid hne
 rw [hne]
 have hl12:=HASKED.out.len
 have HB1:=Lib.hid (HB0.out.trans (hb1.mono HB0.out.size))
 have K1:=Lib.hid (K0.out.below hb1 K0.out.lt)
 have HINH:=Lib.hid (fun (W : World) (hW : Below w.heap.size w W) => inhabited_any A l c W HASKED.out.right (H.out.next hW).dts H.out.dlen)
 clear hb1 hne
 go_wp2_with fail
 refine Calls.mono (HINH.out _ HB1.out) ?_
 rintro e w2 ⟨hb2,g,bs,rfl,hbl,hbools,hinh⟩
 rw [hbl]
 have HBL:=Lib.hid hbl
 have HIN:=Lib.hid hinh
 have HB2:=Lib.hid (HB1.out.trans (hb2.mono HB1.out.size))
 have K2:=Lib.hid (K1.out.below hb2 K1.out.lt)
 have HB3:=Lib.hid (HB2.out.alloc HB2.out.size (.cells #[.slice A l.length c,.slice (some ⟨g,0,none⟩) l.length l.length] 79))
 have K3:=Lib.hid (K2.out.alloc (.cells #[.slice A l.length c,.slice (some ⟨g,0,none⟩) l.length l.length] 79))
 have HUS:=Lib.hid (show UsAt l A c bs g w2.heap.size (w2.alloc (.cells #[.slice A l.length c,.slice (some ⟨g,0,none⟩) l.length l.length] 79)) from ⟨Blk.new w2 _ _,(H.out.next HB3.out).dts,hbools.next ((Below.refl _ _).alloc (Nat.le_refl _) _),hbl⟩)
 clear hb2 hbl hbools hinh
 go_upto_region 5 with (fail)
 generalize w2.alloc (.cells #[.slice A l.length c,.slice (some ⟨g,0,none⟩) l.length l.length] 79) = w3 at HB3 K3 HUS ⊢
 go_wp2_with fail
 go_loopw [28,10,11] (fun iv rv ov wr => ∃ k : Nat,iv = .int .i64 k ∧ k ≤ ps.length ∧ Hid (Below w3.heap.size w3 wr) ∧ Hid (RowsO w3.heap.size wr rv ps k) ∧ Hid (OwnI w3.heap.size wr ov (idleL l t ps k))) (fun iv _ _ _ => ps.length - (intOf iv).toNat)
 case atStart => exact ⟨0,rfl,Nat.zero_le _,Lib.hid (Below.refl _ _),Lib.hid ⟨[],none,0,rfl,rfl,World.ownsRow_nil _ _ _ _,fun i r h => by simp at h⟩,Lib.hid ⟨none,0,by unfold idleL idleN; rfl,World.ownsRow_nil _ _ _ _⟩⟩
 case round =>
  obtain ⟨k,rfl,hk,HB,HRO,HO⟩:=hrel
  obtain ⟨Ao,co,rfl,howno⟩:=HO.out
  have HOWNO:=Lib.hid howno
  obtain ⟨-,A',c',-,rfl,-,-⟩:=HRO.out
  clear howno
  have HBW:=Lib.hid (HB3.out.trans (HB.out.mono HB3.out.size))
  by_cases hlt : k < ps.length
  ·obtain ⟨q,b0,off,hq,hmem,rfl,hb,x0,x1,x2,x3⟩:=Pt.arg_at HP.out.row HBW.out hlt
   have HQ:=Lib.hid hq
   have hs0:=HB.out.size
   have KW:=Lib.hid (K3.out.below HB.out K3.out.lt)
   obtain ⟨y0,y1,y2⟩:=KW.out.three
   have yl:=KW.out.lt
   have HUSE:=Lib.hid (fun (W : World) (bt bp : Nat) (A9 : Option Addr) (c9 : Nat) (hW : Below w3.heap.size w3 W) (kt : Blk W bt #[.string t.dof,.string t.name,.slice t.at_ t.args.length t.cap] 25) (kp : Blk W bp #[.string q.dof,.string q.name,.int .i64 q.num,.slice q.at_ q.args.length q.cap] 28) (ro : RowsO w3.heap.size W (.slice A9 k c9) ps k) =>
    rus_one l A c bs g w2.heap.size HIN.out t _ ps HASKED.out k q HQ.out W (H.out.next (HB3.out.trans (hW.mono HB3.out.size))) (HUS.out.next hW) w3.heap.size bt bp A9 c9 kt kp ro.take)
   have HK4:=Lib.hid (show Blk (((wr.alloc (.cells #[.string q.dof,.string q.name,.int .i64 q.num,.slice q.at_ q.args.length q.cap] 28)).alloc (.cells #[.string q.dof,.string q.name,.int .i64 q.num,.slice q.at_ q.args.length q.cap] 28)).alloc (.cells #[.string t.dof,.string t.name,.slice t.at_ t.args.length t.cap] 25)) wr.heap.size #[.string q.dof,.string q.name,.int .i64 q.num,.slice q.at_ q.args.length q.cap] 28 from ((Blk.new wr _ _).alloc _).alloc _)
   have HKP:=Lib.hid (show Blk (((wr.alloc (.cells #[.string q.dof,.string q.name,.int .i64 q.num,.slice q.at_ q.args.length q.cap] 28)).alloc (.cells #[.string q.dof,.string q.name,.int .i64 q.num,.slice q.at_ q.args.length q.cap] 28)).alloc (.cells #[.string t.dof,.string t.name,.slice t.at_ t.args.length t.cap] 25)) (wr.heap.size + 1) #[.string q.dof,.string q.name,.int .i64 q.num,.slice q.at_ q.args.length q.cap] 28 from (Blk.new' _ _ _ _ (by simp)).alloc _)
   have HKT:=Lib.hid (show Blk (((wr.alloc (.cells #[.string q.dof,.string q.name,.int .i64 q.num,.slice q.at_ q.args.length q.cap] 28)).alloc (.cells #[.string q.dof,.string q.name,.int .i64 q.num,.slice q.at_ q.args.length q.cap] 28)).alloc (.cells #[.string t.dof,.string t.name,.slice t.at_ t.args.length t.cap] 25)) (wr.heap.size + 1 + 1) #[.string t.dof,.string t.name,.slice t.at_ t.args.length t.cap] 25 from Blk.new' _ _ _ _ (by simp))
   have HBA:=Lib.hid (show Below wr.heap.size wr (((wr.alloc (.cells #[.string q.dof,.string q.name,.int .i64 q.num,.slice q.at_ q.args.length q.cap] 28)).alloc (.cells #[.string q.dof,.string q.name,.int .i64 q.num,.slice q.at_ q.args.length q.cap] 28)).alloc (.cells #[.string t.dof,.string t.name,.slice t.at_ t.args.length t.cap] 25)) from (((Below.refl _ _).alloc (Nat.le_refl _) _).alloc (by simp) _).alloc (by simp; omega) _)
   obtain ⟨z,hz⟩ : ∃ z,(!idle l t ps k) = z:=⟨_,rfl⟩
   have HU1:=Lib.hid (fun (hh : z = true) => (show idleL l t ps (k + 1) = idleL l t ps k from idleL_no (by rw [← hz] at hh; simpa using hh)))
   have HU2:=Lib.hid (fun (hh : z = false) => (show idleL l t ps (k + 1) = idleL l t ps k ++ [.int .i64 (k : Nat)] from idleL_yes (by rw [← hz] at hh; simpa using hh)))
   have HUL:=Lib.hid (show (idleL l t ps k).length ≤ 12 by have:=idleL_len l t ps k; omega)
   rw [hz] at HUSE
   clear hz hq hmem hb
   go_wp2_with fail
   generalize ((wr.alloc (.cells #[.string q.dof,.string q.name,.int .i64 q.num,.slice q.at_ q.args.length q.cap] 28)).alloc (.cells #[.string q.dof,.string q.name,.int .i64 q.num,.slice q.at_ q.args.length q.cap] 28)).alloc (.cells #[.string t.dof,.string t.name,.slice t.at_ t.args.length t.cap] 25) = w4 at HK4 HKP HKT HBA ⊢
   have HB4:=Lib.hid (HB.out.trans (HBA.out.mono HB.out.size))
   refine Calls.mono (HUSE.out w4 _ _ A' c' HB4.out HKT.out HKP.out (HRO.out.keep HBA.out)) ?_
   rintro e w5 ⟨hb5,rfl⟩
   have HB5:=Lib.hid (HB4.out.trans (hb5.mono HB4.out.size))
   have HK5:=Lib.hid (HK4.out.below hb5 HK4.out.lt)
   have HRO5:=Lib.hid ((HRO.out.keep HBA.out).keep hb5)
   have HOI5:=Lib.hid (row_stays HOWNO.out fun i hi => ((hb5.mono HBA.out.size).block i (HOWNO.out.lt i hi).2).trans (HBA.out.block i (HOWNO.out.lt i hi).2))
   clear hb5 x0 x1 x2 x3 y0 y1 y2 yl
   cases z
   case true =>
    obtain ⟨v0,v1,v2,v3⟩:=HK5.out.four
    have vl:=HK5.out.lt
    obtain ⟨rs,A9,c9,hrl,he,hown,hone⟩:=HRO5.out
    cases he
    have HOWN:=Lib.hid hown
    have HONE:=Lib.hid hone
    have HRL:=Lib.hid hrl
    have HBX:=Lib.hid HB5.out
    clear hown hone hrl
    go_wp2_with (at_builtin; go_must (refine wpList_append_own_at _ rfl (.tmp 45) (.tmp 48) 80 rfl w3.heap.size 26 i1 _ 1 24 Tryz.underlying80 hj hw0 hw1 hw2 rfl (by decide) (.slice A' k c') k (rs.map Rw.val) rfl ?r0A ⟨w5.heap.size + 1,0,none⟩ 1 1 [.slice (some ⟨w5.heap.size,0,none⟩) 1 1] rfl rfl ?r1A ?r2A ?r3A ?r4A ?r5A ?_))
    case r0A => exact (HOWN.out.alloc _).alloc _
    case r1A => exact cell_one_at _ _ _ _ (by simp)
    case r2A => simp [Value.oneCell']
    case r3A => unfold maxLen; omega
    case r4A => omega
    case r5A => first | omega | (simp; omega)
    intro v' w9 hown hgrow _ _
    obtain ⟨A5,c5,rfl,-⟩:=row_slice hown
    have hkeep : ∀ b cs,Blk ((w5.alloc (.cells #[.string q.dof,.string q.name,.int .i64 q.num,.slice q.at_ q.args.length q.cap] 28)).alloc (.cells #[.slice (some ⟨w5.heap.size,0,none⟩) 1 1] 26)) b cs 28 → Blk w9 b cs 28:=fun b cs hb => (hgrow.block b hb.lt (own_ne ((HOWN.out.alloc _).alloc _) hb (by decide)).symm).trans hb
    have hb9 : Below w3.heap.size w3 w9:=((HBX.out.alloc HBX.out.size _).alloc (by have:=HBX.out.size; simp; omega) _).grown hgrow (by have:=HBX.out.size; simp; omega) (fun i hi => (HOWN.out.lt i hi).1)
    have hnew:=hkeep w5.heap.size _ ((Blk.new' w5 _ _ _ rfl).alloc _)
    have HB9:=Lib.hid hb9
    have HR9:=Lib.hid (RowsO.snoc (B:=w3.heap.size) (A5:=A5) (c5:=c5) HRL.out (fun i r hi => by
     obtain ⟨q',b',h1,h2,h3⟩:=HONE.out i r hi
     exact ⟨q',b',h1,h2,hkeep _ _ ((h3.alloc _).alloc _)⟩) HQ.out hnew (by simpa using hown))
    have HO9:=Lib.hid (row_grown ((HOI5.out.alloc _).alloc _) ((HOWN.out.alloc _).alloc _) hgrow (by decide))
    clear hkeep hb9 hnew hown hgrow
    go_wp2_with fail
    exact ⟨⟨k + 1,by go_num,by omega,HB9.out,HR9.out,Lib.hid ⟨Ao,co,by rw [HU1.out (by simp)],by rw [HU1.out (by simp)]; exact HO9.out⟩⟩,by simp [intOf]; omega⟩
   case false =>
    go_wp2_with (at_builtin; go_must (refine wpList_append_own_at _ rfl (.tmp 41) (.tmp 43) 41 rfl w3.heap.size 3 i0 _ 1 8 Tryz.underlying41 hi hz0 hz1 hz2 rfl (by decide) (.slice Ao (idleL l t ps k).length co) (idleL l t ps k).length (idleL l t ps k) rfl (HOI5.out.alloc _) ⟨w5.heap.size,0,none⟩ 1 1 [.int .i64 k] rfl rfl (World.news_of_block (heap_alloc_new w5 _)) (by simp [Value.oneCell']) (by have:=HUL.out; unfold maxLen; omega) (by have:=HUL.out; omega) (by have:=HB5.out.size; first | omega | (simp; omega)) ?_))
    intro v' w6 hown hgrow _ _
    obtain ⟨A6,c6,rfl,-⟩:=row_slice hown
    have hbb : Below w5.heap.size w5 (w5.alloc (.cells #[.int .i64 k] 3)):=(Below.refl _ _).alloc (Nat.le_refl _) _
    have hb6 : Below w3.heap.size w3 w6:=(HB5.out.alloc HB5.out.size _).grown hgrow (by have:=HB5.out.size; simp; omega) (fun i hi => (HOI5.out.lt i hi).1)
    have HBX:=Lib.hid hb6
    have HRO6:=Lib.hid ((HRO5.out.keep hbb).grown (HOI5.out.alloc _) hgrow (by decide) (by decide))
    have HK6:=Lib.hid (show Blk w6 wr.heap.size #[.string q.dof,.string q.name,.int .i64 q.num,.slice q.at_ q.args.length q.cap] 28 from (hgrow.block _ (HK5.out.alloc (.cells #[.int .i64 k] 3)).lt (own_ne (HOI5.out.alloc (.cells #[.int .i64 k] 3)) (HK5.out.alloc (.cells #[.int .i64 k] 3)) (by decide)).symm).trans (HK5.out.alloc (.cells #[.int .i64 k] 3)))
    have HOI6:=Lib.hid hown
    clear hown hgrow hbb hb6
    obtain ⟨v0,v1,v2,v3⟩:=HK6.out.four
    have vl:=HK6.out.lt
    obtain ⟨rs,A9,c9,hrl,he,hown,hone⟩:=HRO6.out
    cases he
    have HOWN:=Lib.hid hown
    have HONE:=Lib.hid hone
    have HRL:=Lib.hid hrl
    clear hown hone hrl
    go_wp2_with (at_builtin; go_must (refine wpList_append_own_at _ rfl (.tmp 45) (.tmp 48) 80 rfl w3.heap.size 26 i1 _ 1 24 Tryz.underlying80 hj hw0 hw1 hw2 rfl (by decide) (.slice A' k c') k (rs.map Rw.val) rfl ?r0B ⟨w6.heap.size + 1,0,none⟩ 1 1 [.slice (some ⟨w6.heap.size,0,none⟩) 1 1] rfl rfl ?r1B ?r2B ?r3B ?r4B ?r5B ?_))
    case r0B => exact (HOWN.out.alloc _).alloc _
    case r1B => exact cell_one_at _ _ _ _ (by simp)
    case r2B => simp [Value.oneCell']
    case r3B => unfold maxLen; omega
    case r4B => omega
    case r5B => first | omega | (simp; omega)
    intro v' w9 hown hgrow _ _
    obtain ⟨A5,c5,rfl,-⟩:=row_slice hown
    have hkeep : ∀ b cs,Blk ((w6.alloc (.cells #[.string q.dof,.string q.name,.int .i64 q.num,.slice q.at_ q.args.length q.cap] 28)).alloc (.cells #[.slice (some ⟨w6.heap.size,0,none⟩) 1 1] 26)) b cs 28 → Blk w9 b cs 28:=fun b cs hb => (hgrow.block b hb.lt (own_ne ((HOWN.out.alloc _).alloc _) hb (by decide)).symm).trans hb
    have hb9 : Below w3.heap.size w3 w9:=((HBX.out.alloc HBX.out.size _).alloc (by have:=HBX.out.size; simp; omega) _).grown hgrow (by have:=HBX.out.size; simp; omega) (fun i hi => (HOWN.out.lt i hi).1)
    have hnew:=hkeep w6.heap.size _ ((Blk.new' w6 _ _ _ rfl).alloc _)
    have HB9:=Lib.hid hb9
    have HR9:=Lib.hid (RowsO.snoc (B:=w3.heap.size) (A5:=A5) (c5:=c5) HRL.out (fun i r hi => by
     obtain ⟨q',b',h1,h2,h3⟩:=HONE.out i r hi
     exact ⟨q',b',h1,h2,hkeep _ _ ((h3.alloc _).alloc _)⟩) HQ.out hnew (by simpa using hown))
    have HO9:=Lib.hid (row_grown ((HOI6.out.alloc _).alloc _) ((HOWN.out.alloc _).alloc _) hgrow (by decide))
    clear hkeep hb9 hnew hown hgrow
    go_wp2_with fail
    exact ⟨⟨k + 1,by go_num,by omega,HB9.out,HR9.out,Lib.hid ⟨A6,c6,by rw [HU2.out (by simp)]; simp,by rw [HU2.out (by simp)]; have:=HO9.out; simpa using this⟩⟩,by simp [intOf]; omega⟩
  ·have hk2 : k = ps.length:=by omega
   subst hk2
   go_wp2_with fail
   exact bodyPost_ret (v:=.tuple #[.slice Ao (idleL l t ps ps.length).length co,.int .i64 0]) (by simp [results,Tryz.results24,go_sem]) rfl ⟨HBW.out,.inl ⟨HNIL.out,_,rfl,Ao,co,rfl,own_wide HOWNO.out HB3.out.size⟩⟩
end Go.Proofs.YtjeggkfgdhepaaaGreatDoor
