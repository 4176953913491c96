/- Constructors and datatypes, by the program's rule; types that are nothing. -/
import Derived.Test.YtjeggkfgdhepaaaGreatDoorG03
set_option linter.unusedVariables false
set_option linter.unusedSimpArgs false
namespace Go.Proofs.YtjeggkfgdhepaaaGreatDoor
open Go.RowKit
open Go.Proofs
theorem Blk.five {w : World} {k : Nat} {a b c d e : Value} {t : TypeId} (h : Blk w k #[a,b,c,d,e] t) : w.cell? ⟨k,0,none⟩ = some a ∧ w.cell? ⟨k,1,none⟩ = some b ∧ w.cell? ⟨k,2,none⟩ = some c ∧ w.cell? ⟨k,3,none⟩ = some d ∧ w.cell? ⟨k,4,none⟩ = some e:=
 ⟨h.cell 0,h.cell 1,h.cell 2,h.cell 3,h.cell 4⟩
def Ty.zero (t : Ty) : Bool:=t.dof.toList.isEmpty && (t.name.toList.isEmpty && ((t.args.length : Int) == 0))
theorem empty_both (s : ByteArray) : (s.toList == []) = s.toList.isEmpty:=by cases s.toList <;> rfl
set_option maxHeartbeats 1000000 in
theorem isZero_any (t : Ty) (w : World) : Calls Tryz.prog 151 #[t.val] w fun e w' => e = .returned (.bool t.zero) ∧ Below w.heap.size w w':=by
 unfold Ty.zero Ty.val
 have HB0:=Lib.hid ((Below.refl w.heap.size w).alloc (Nat.le_refl _) (.cells #[.string t.dof,.string t.name,.slice t.at_ t.args.length t.cap] 25))
 obtain ⟨b1,h1⟩ : ∃ b,t.dof.toList.isEmpty = b:=⟨_,rfl⟩
 obtain ⟨b2,h2⟩ : ∃ b,t.name.toList.isEmpty = b:=⟨_,rfl⟩
 obtain ⟨b3,h3⟩ : ∃ b,((t.args.length : Int) == 0) = b:=⟨_,rfl⟩
 have h1':=(empty_both t.dof).trans h1
 have h2':=(empty_both t.name).trans h2
 rw [h1,h2,h3]
 cases b1
 ·go_enter Tryz.func151,Tryz.ntmps151
  go_wp2_with fail
  go_ret
  exact ⟨by simp,HB0.out⟩
 cases b2
 ·go_enter Tryz.func151,Tryz.ntmps151
  go_wp2_with fail
  go_ret
  exact ⟨by simp,HB0.out⟩
 cases b3
 ·go_enter Tryz.func151,Tryz.ntmps151
  go_wp2_with fail
  go_ret
  exact ⟨by simp,HB0.out⟩
 ·go_enter Tryz.func151,Tryz.ntmps151
  go_wp2_with fail
  go_ret
  exact ⟨by simp,HB0.out⟩
def Cn.okB (c : Cn) : Bool:=kindB .con c.name && ((c.has && c.ty.well (kindB .con)) || (!c.has && c.ty.zero))
set_option maxHeartbeats 2000000 in
theorem con_any (c : Cn) (w : World) (h : Env w) (hin : c.In w.heap.size w) :
  Calls Tryz.prog 128 #[c.val] w fun e w' => e = .returned (.bool c.okB) ∧ Below w.heap.size w w':=by
 have HE:=Lib.hid h
 have HI:=Lib.hid hin
 have HC1:=Lib.hid (fun (W : World) (he : Env W) => is_con c.name (by have:=hin.1; omega) W he)
 have HC2:=Lib.hid (fun (W : World) (hp : c.ty.In W.heap.size W) (he : Env W) => type_any c.ty W he hp)
 have HC3:=Lib.hid (fun (W : World) => isZero_any c.ty W)
 unfold Cn.okB Cn.val
 clear h hin
 generalize kindB .con c.name = kb at HC1 ⊢
 generalize c.ty.well (kindB .con) = wb at HC2 ⊢
 generalize c.ty.zero = zb at HC3 ⊢
 generalize c.has = hb
 have HB0:=Lib.hid ((Below.refl w.heap.size w).alloc (Nat.le_refl _) (.cells #[.string c.name,.bool hb,.string c.ty.dof,.string c.ty.name,.slice c.ty.at_ c.ty.args.length c.ty.cap] 117))
 unfold Ty.val at *
 cases kb
 ·go_enter Tryz.func128,Tryz.ntmps128
  go_wp2_with fail
  refine Calls.mono (HC1.out _ (HE.out.next HB0.out)) ?_
  rintro e w1 ⟨rfl,hb1⟩
  have HB1:=Lib.hid (HB0.out.trans (hb1.mono HB0.out.size))
  clear hb1
  go_wp2_with fail
  go_ret
  exact ⟨by simp,HB1.out⟩
 cases hb
 ·go_enter Tryz.func128,Tryz.ntmps128
  go_wp2_with fail
  refine Calls.mono (HC1.out _ (HE.out.next HB0.out)) ?_
  rintro e w1 ⟨rfl,hb1⟩
  obtain ⟨y0,y1,y2,y3,y4⟩:=Blk.five ((Blk.new w _ _).below hb1 (by simp))
  have HB1:=Lib.hid (HB0.out.trans (hb1.mono HB0.out.size))
  have yl : w.heap.size < w1.heap.size:=by have:=hb1.size; simp at this; omega
  clear hb1
  go_wp2_with fail
  refine Calls.mono (HC3.out _) ?_
  rintro e w2 ⟨rfl,hb2⟩
  have HB2:=Lib.hid (HB1.out.trans (hb2.mono HB1.out.size))
  clear hb2
  go_wp2_with fail
  go_ret
  exact ⟨by simp,HB2.out⟩
 ·cases wb
  ·go_enter Tryz.func128,Tryz.ntmps128
   go_wp2_with fail
   refine Calls.mono (HC1.out _ (HE.out.next HB0.out)) ?_
   rintro e w1 ⟨rfl,hb1⟩
   obtain ⟨y0,y1,y2,y3,y4⟩:=Blk.five ((Blk.new w _ _).below hb1 (by simp))
   have HB1:=Lib.hid (HB0.out.trans (hb1.mono HB0.out.size))
   have yl : w.heap.size < w1.heap.size:=by have:=hb1.size; simp at this; omega
   have HK1:=Lib.hid (Blk.below (Blk.new w _ _) hb1 (by simp))
   clear hb1
   go_wp2_with fail
   refine Calls.mono (HC2.out _ (HI.out.2.at_ HB1.out HB1.out.size) (HE.out.next HB1.out)) ?_
   rintro e w2 ⟨rfl,hb2⟩
   clear y0 y1 y2 y3 y4
   obtain ⟨y0,y1,y2,y3,y4⟩:=Blk.five (HK1.out.below hb2 HK1.out.lt)
   have yl2 : w.heap.size < w2.heap.size:=by have:=hb2.size; omega
   have HB2:=Lib.hid (HB1.out.trans (hb2.mono HB1.out.size))
   clear hb2
   go_wp2_with fail
   go_ret
   exact ⟨by simp,HB2.out⟩
  ·go_enter Tryz.func128,Tryz.ntmps128
   go_wp2_with fail
   refine Calls.mono (HC1.out _ (HE.out.next HB0.out)) ?_
   rintro e w1 ⟨rfl,hb1⟩
   obtain ⟨y0,y1,y2,y3,y4⟩:=Blk.five ((Blk.new w _ _).below hb1 (by simp))
   have HB1:=Lib.hid (HB0.out.trans (hb1.mono HB0.out.size))
   have yl : w.heap.size < w1.heap.size:=by have:=hb1.size; simp at this; omega
   clear hb1
   go_wp2_with fail
   refine Calls.mono (HC2.out _ (HI.out.2.at_ HB1.out HB1.out.size) (HE.out.next HB1.out)) ?_
   rintro e w2 ⟨rfl,hb2⟩
   have HB2:=Lib.hid (HB1.out.trans (hb2.mono HB1.out.size))
   clear hb2
   go_wp2_with fail
   go_ret
   exact ⟨by simp,HB2.out⟩
set_option maxHeartbeats 1000000 in
theorem ruleCon_any (c : Cn) (w : World) (h : Env w) (hin : c.In w.heap.size w) :
  Calls Tryz.prog 107 #[.agg #[.bool true],c.val] w fun e w' => e = .returned (.bool c.okB) ∧ Below w.heap.size w w':=by
 have HE:=Lib.hid h
 have HI:=Lib.hid hin
 have HC:=Lib.hid (fun (W : World) (hp : c.In W.heap.size W) (he : Env W) => con_any c W he hp)
 clear h hin
 have HB0:=Lib.hid (((Below.refl w.heap.size w).alloc (Nat.le_refl _) (.cells #[.bool true] 113)).alloc (by simp) (.cells #[.string c.name,.bool c.has,.string c.ty.dof,.string c.ty.name,.slice c.ty.at_ c.ty.args.length c.ty.cap] 117))
 unfold Cn.val at *
 generalize c.okB = ok at HC ⊢
 cases ok
 all_goals
  go_enter Tryz.func107,Tryz.ntmps107
  go_wp2_with fail
  refine Calls.mono (HC.out _ (HI.out.at_ HB0.out HB0.out.size) (HE.out.next HB0.out)) ?_
  rintro e w1 ⟨rfl,hb1⟩
  have y0 : w1.cell? ⟨w.heap.size,0,none⟩ = some (.bool true):=(hb1.cell (p:=⟨w.heap.size,0,none⟩) (by simp; omega)).trans (((Blk.new w #[.bool true] 113).alloc _).cell 0)
  have HB1:=Lib.hid (HB0.out.trans (hb1.mono HB0.out.size))
  have yl : w.heap.size < w1.heap.size:=by have:=hb1.size; simp at this; omega
  clear hb1
  go_wp2_with fail
  go_ret
  exact ⟨by simp,HB1.out⟩
end Go.Proofs.YtjeggkfgdhepaaaGreatDoor

namespace Go.Proofs.YtjeggkfgdhepaaaGreatDoor
open Go.RowKit
open Go.Proofs
def Dt.okB (d : Dt) : Bool:=kindB .con d.name && (decide (0 < d.cons.length) && d.cons.all Cn.okB)
theorem all_take_succ {α : Type} {l : List α} {p : α → Bool} {k : Nat} {q : α} (hq : l[k]? = some q) (hw : (l.take k).all p = true) (hr : p q = true) : (l.take (k + 1)).all p = true:=by
 rw [List.take_add_one,hq]
 simp [List.all_append,hw,hr]
theorem all_no {α : Type} {l : List α} {p : α → Bool} {k : Nat} {q : α} (hq : l[k]? = some q) (hr : p q = false) : l.all p = false:=by
 rw [List.all_eq_false]
 exact ⟨q,List.mem_of_getElem? hq,by rw [hr]; simp⟩
set_option maxRecDepth 100000 in
set_option maxHeartbeats 2000000 in
theorem ruleData_any (d : Dt) (w : World) (h : Env w) (hin : d.In w.heap.size w) :
  Calls Tryz.prog 67 #[.agg #[.bool true],d.val] w fun e w' => e = .returned (.bool d.okB) ∧ Below w.heap.size w w':=by
 have HE:=Lib.hid h
 have HI:=Lib.hid hin
 have HC1:=Lib.hid (fun (W : World) (he : Env W) => is_con d.name (by have:=hin.1; omega) W he)
 have hl:=hin.2.1
 clear h hin
 have HBR:=Lib.hid ((Below.refl w.heap.size w).alloc (Nat.le_refl _) (.cells #[.bool true] 113))
 have HB0:=Lib.hid (HBR.out.alloc (by simp) (.cells #[.string d.name,.slice d.at_ d.cons.length d.cap] 111))
 unfold Dt.okB Dt.val
 generalize kindB .con d.name = kb at HC1 ⊢
 cases kb
 ·go_enter Tryz.func67,Tryz.ntmps67
  go_wp2_with fail
  refine Calls.mono (HC1.out _ (HE.out.next HB0.out)) ?_
  rintro e w1 ⟨rfl,hb1⟩
  have HB1:=Lib.hid (HB0.out.trans (hb1.mono HB0.out.size))
  have y0 : w1.cell? ⟨w.heap.size,0,none⟩ = some (.bool true):=(hb1.cell (p:=⟨w.heap.size,0,none⟩) (by simp; omega)).trans (((Blk.new w #[.bool true] 113).alloc _).cell 0)
  have yl : w.heap.size < w1.heap.size:=by have:=hb1.size; simp at this; omega
  clear hb1
  go_wp2_with fail
  go_ret
  exact ⟨by simp,HB1.out⟩
 rcases Nat.eq_zero_or_pos d.cons.length with hpos | hpos
 ·have hno : ¬0 < d.cons.length:=by omega
  rw [decide_eq_false hno]
  rw [hpos] at HB0 ⊢
  go_enter Tryz.func67,Tryz.ntmps67
  go_wp2_with fail
  refine Calls.mono (HC1.out _ (HE.out.next HB0.out)) ?_
  rintro e w1 ⟨rfl,hb1⟩
  have HB1:=Lib.hid (HB0.out.trans (hb1.mono HB0.out.size))
  have y0 : w1.cell? ⟨w.heap.size,0,none⟩ = some (.bool true):=(hb1.cell (p:=⟨w.heap.size,0,none⟩) (by simp; omega)).trans (((Blk.new w #[.bool true] 113).alloc _).cell 0)
  obtain ⟨z0,z1⟩:=Blk.two ((Blk.new' (w.alloc (.cells #[.bool true] 113)) #[.string d.name,.slice d.at_ 0 d.cap] 111 (w.heap.size + 1) (by simp)).below hb1 (by simp))
  have yl : w.heap.size + 1 < w1.heap.size:=by have:=hb1.size; simp at this; omega
  clear hb1
  go_wp2_with fail
  go_ret
  exact ⟨by simp [hno],HB1.out⟩
 ·go_enter Tryz.func67,Tryz.ntmps67
  go_wp2_with fail
  refine Calls.mono (HC1.out _ (HE.out.next HB0.out)) ?_
  rintro e w1 ⟨rfl,hb1⟩
  have HB1:=Lib.hid (HB0.out.trans (hb1.mono HB0.out.size))
  have y0 : w1.cell? ⟨w.heap.size,0,none⟩ = some (.bool true):=(hb1.cell (p:=⟨w.heap.size,0,none⟩) (by simp; omega)).trans (((Blk.new w #[.bool true] 113).alloc _).cell 0)
  obtain ⟨z0,z1⟩:=Blk.two ((Blk.new' (w.alloc (.cells #[.bool true] 113)) #[.string d.name,.slice d.at_ d.cons.length d.cap] 111 (w.heap.size + 1) (by simp)).below hb1 (by simp))
  have yl : w.heap.size + 1 < w1.heap.size:=by have:=hb1.size; simp at this; omega
  have Y0:=Lib.hid y0
  have YL:=Lib.hid yl
  have HCONT:=Lib.hid (containsCon 106 (enters_of Tryz.func106 (by kernel_rfl) rfl) #[.pointer (some ⟨w.heap.size,0,none⟩)] d.cons d.at_ d.cap w1
   (fun k W => Below w1.heap.size w1 W ∧ (d.cons.take k).all Cn.okB = true) (fun k W => Below w1.heap.size w1 W ∧ d.cons.all Cn.okB = false) hl
   (fun k W hh => ⟨_,HI.out.2.2.2.1.keep (HB1.out.trans (hh.1.mono HB1.out.size))⟩) ⟨Below.refl _ _,rfl⟩
   (fun k W q hq ⟨hb,hw⟩ => by
    have hm:=List.mem_of_getElem? hq
    have hbw:=HB1.out.trans (hb.mono HB1.out.size)
    have hqi:=(HI.out.2.2.2.2 q hm).at_ hbw hbw.size
    have hev:=HE.out.next hbw
    have x0 : W.cell? ⟨w.heap.size,0,none⟩ = some (.bool true):=(hb.cell (p:=⟨w.heap.size,0,none⟩) (by have:=YL.out; simp; omega)).trans Y0.out
    have xl : w.heap.size < W.heap.size:=by have:=YL.out; have:=hb.size; omega
    have HB2:=Lib.hid ((Below.refl W.heap.size W).alloc (Nat.le_refl _) (.cells #[.string q.name,.bool q.has,.string q.ty.dof,.string q.ty.name,.slice q.ty.at_ q.ty.args.length q.ty.cap] 117))
    have HCC:=Lib.hid (ruleCon_any q _ (hev.next HB2.out) (hqi.at_ HB2.out HB2.out.size))
    have hcl : Calls Tryz.prog 106 (#[q.val] ++ #[.pointer (some ⟨w.heap.size,0,none⟩)]) W fun e W' => e = .returned (.bool (!q.okB)) ∧ Below W.heap.size W W':=by
     clear hqi hev hbw hb hw HB1 HB0 HBR HI z0 z1 y0 yl Y0 YL HC1 HE
     unfold Cn.val at *
     show Calls _ _ #[_,_] _ _
     go_enter Tryz.func106,Tryz.ntmps106
     go_wp2_with fail
     refine Calls.mono HCC.out ?_
     rintro e w1 ⟨rfl,hb1⟩
     have HB3:=Lib.hid (HB2.out.trans (hb1.mono HB2.out.size))
     clear hb1
     go_wp2_with fail
     go_ret
     exact ⟨rfl,HB3.out⟩
    refine Calls.mono hcl ?_
    rintro e W' ⟨rfl,hb2⟩
    have hb3:=hb.trans (hb2.mono hb.size)
    cases hr : q.okB
    ·exact .inl ⟨rfl,hb3,all_no hq hr⟩
    ·exact .inr ⟨rfl,hb3,all_take_succ hq hw hr⟩))
  clear hb1
  go_wp2_with fail
  refine Calls.mono HCONT.out ?_
  rintro e w2 (⟨i,hi,rfl,hb2,hno⟩ | ⟨rfl,hb2,hyes⟩)
  ·have HB2:=Lib.hid (HB1.out.trans (hb2.mono HB1.out.size))
   have HN:=Lib.hid hno
   clear hb2 hno
   go_wp2_with fail
   go_ret
   exact ⟨by rw [HN.out,decide_eq_true hpos]; rfl,HB2.out⟩
  ·have HB2:=Lib.hid (HB1.out.trans (hb2.mono HB1.out.size))
   rw [List.take_length] at hyes
   have HN:=Lib.hid hyes
   clear hb2 hyes
   go_wp2_with fail
   go_ret
   exact ⟨by rw [HN.out,decide_eq_true hpos]; rfl,HB2.out⟩
def Ty.plain : Ty → Bool
 | .mk d _ _ _ l => !isDo [118,97,114] d && (!isDo [102,110] d && (!isDo [97,114,114,97,121] d && ((l.map Ty.plain).all id)))
theorem Ty.plain_mk (d n : ByteArray) (a : Option Addr) (c : Nat) (l : List Ty) : (Ty.mk d n a c l).plain = (!isDo [118,97,114] d && (!isDo [102,110] d && (!isDo [97,114,114,97,121] d && l.all Ty.plain))):=by rw [Ty.plain]; simp [List.all_map,Function.comp_def]
theorem bne_of {a b : List UInt8} {t : Bool} (h : (a == b) = t) : (a != b) = !t:=by rw [← h]; rfl
set_option maxRecDepth 100000 in
set_option maxHeartbeats 2000000 in
theorem plain_any : ∀ (t : Ty) (w : World),t.In w.heap.size w →
  Calls Tryz.prog 108 #[t.val] w fun e w' => e = .returned (.bool t.plain) ∧ Below w.heap.size w w':=by
 refine Ty.induct fun d n A c l ih w hin => ?_
 obtain ⟨hd,hn,hl,-,hrow,hall⟩:=Ty.In_mk.1 hin
 have HR:=Lib.hid hrow
 have HA:=Lib.hid hall
 have IH:=Lib.hid ih
 clear hin hrow hall ih
 have HB0:=Lib.hid ((Below.refl w.heap.size w).alloc (Nat.le_refl _) (.cells #[.string d,.string n,.slice A l.length c] 25))
 rw [Ty.plain_mk]
 unfold Ty.val isDo
 simp only [Ty.dof,Ty.name,Ty.at_,Ty.cap,Ty.args]
 obtain ⟨tv,hv⟩ : ∃ t,(d.toList == [118,97,114]) = t:=⟨_,rfl⟩
 obtain ⟨tf,hf⟩ : ∃ t,(d.toList == [102,110]) = t:=⟨_,rfl⟩
 obtain ⟨ta,ha⟩ : ∃ t,(d.toList == [97,114,114,97,121]) = t:=⟨_,rfl⟩
 have hv':=bne_of hv
 have hf':=bne_of hf
 have ha':=bne_of ha
 rw [hv,hf,ha]
 have HCONT:=Lib.hid (containsTy 129 (enters_of Tryz.func129 (by kernel_rfl) rfl) #[] l A c (w.alloc (.cells #[.string d,.string n,.slice A l.length c] 25))
   (fun k W => Below w.heap.size w W ∧ (l.take k).all Ty.plain = true) (fun k W => Below w.heap.size w W ∧ l.all Ty.plain = false) hl
   (fun k W hh => ⟨_,HR.out.keep hh.1⟩) ⟨HB0.out,rfl⟩
   (fun k W q hq ⟨hb,hw⟩ => by
    have hm:=List.mem_of_getElem? hq
    have hqi:=(HA.out q hm).at_ hb hb.size
    have HB2:=Lib.hid ((Below.refl W.heap.size W).alloc (Nat.le_refl _) (.cells #[.string q.dof,.string q.name,.slice q.at_ q.args.length q.cap] 25))
    have HCC:=Lib.hid (IH.out q hm _ (hqi.next HB2.out))
    have hcl : Calls Tryz.prog 129 (#[q.val] ++ #[]) W fun e W' => e = .returned (.bool (!q.plain)) ∧ Below W.heap.size W W':=by
     clear hqi hb hw
     unfold Ty.val at *
     show Calls _ _ #[_] _ _
     go_enter Tryz.func129,Tryz.ntmps129
     go_wp2_with fail
     refine Calls.mono HCC.out ?_
     rintro e w1 ⟨rfl,hb1⟩
     have HB3:=Lib.hid (HB2.out.trans (hb1.mono HB2.out.size))
     clear hb1
     go_wp2_with fail
     go_ret
     exact ⟨rfl,HB3.out⟩
    refine Calls.mono hcl ?_
    rintro e W' ⟨rfl,hb2⟩
    have hb3:=hb.trans (hb2.mono hb.size)
    cases hr : q.plain
    ·exact .inl ⟨rfl,hb3,all_no hq hr⟩
    ·exact .inr ⟨rfl,hb3,all_take_succ hq hw hr⟩))
 cases tv
 case true =>
  go_enter Tryz.func108,Tryz.ntmps108
  go_wp2_with fail
  go_ret
  exact ⟨by simp,HB0.out⟩
 cases tf
 case true =>
  go_enter Tryz.func108,Tryz.ntmps108
  go_wp2_with fail
  go_ret
  exact ⟨by simp,HB0.out⟩
 cases ta
 case true =>
  go_enter Tryz.func108,Tryz.ntmps108
  go_wp2_with fail
  go_ret
  exact ⟨by simp,HB0.out⟩
 go_enter Tryz.func108,Tryz.ntmps108
 go_wp2_with fail
 refine Calls.mono HCONT.out ?_
 rintro e w2 (⟨i,hi,rfl,hb2,hno⟩ | ⟨rfl,hb2,hyes⟩)
 ·have HB2:=Lib.hid hb2
  have HN:=Lib.hid hno
  clear hb2 hno
  go_wp2_with fail
  go_ret
  exact ⟨by rw [HN.out]; rfl,HB2.out⟩
 ·have HB2:=Lib.hid hb2
  rw [List.take_length] at hyes
  have HN:=Lib.hid hyes
  clear hb2 hyes
  go_wp2_with fail
  go_ret
  exact ⟨by rw [HN.out]; rfl,HB2.out⟩
end Go.Proofs.YtjeggkfgdhepaaaGreatDoor

namespace Go.Proofs.YtjeggkfgdhepaaaGreatDoor
open Go.RowKit
open Go.Proofs
open Go.Maps
def emptyS : ByteArray:=⟨#[]⟩
def zDt : Value:=.agg #[.string emptyS,.slice none 0 0]
theorem zeroDt (w : World) : (zeroValue 111).run Tryz.prog w = .ok zDt w:=by kernel_rfl
abbrev ofV (v : Value) : Value:=v
theorem ofV_inj (x y : Value) (h : ofV x = ofV y) : x = y:=h
def Ty.known (has : ByteArray → Bool) : Ty → Bool
 | .mk d n _ _ l => !isDo [118,97,114] d && (!(isDo [100,97,116,97] d && !has n) && (l.map (Ty.known has)).all id)
theorem Ty.known_mk (has : ByteArray → Bool) (d n : ByteArray) (a : Option Addr) (c : Nat) (l : List Ty) : (Ty.mk d n a c l).known has = (!isDo [118,97,114] d && (!(isDo [100,97,116,97] d && !has n) && l.all fun t => t.known has)):=by rw [Ty.known]; simp [List.all_map,Function.comp_def]
def inL (L : List (ByteArray × Value)) (s : ByteArray) : Bool:=(lookL L s).isSome
def wVal (b c x : Nat) : Value:=.agg #[.map (some b),.map (some c),.map (some x)]
def wBox (w : World) (b c x : Nat) : World:=w.alloc (.cells #[.map (some b),.map (some c),.map (some x)] 63)
set_option maxRecDepth 100000 in
set_option maxHeartbeats 2000000 in
theorem known_any (b c x nb : Nat) (L : List (ByteArray × Value)) (hL : ∀ s v,lookL L s = some v → ∃ p q m k,v = .agg #[.string p,.slice q m k]) : ∀ (t : Ty) (w : World),t.In w.heap.size w → MapAt ofV w b nb L →
  Calls Tryz.prog 70 #[wVal b c x,t.val] w fun e w' => e = .returned (.bool (t.known (inL L))) ∧ Below w.heap.size w w':=by
 refine Ty.induct fun d n A cc l ih w hin hm => ?_
 obtain ⟨hd,hn,hl,-,hrow,hall⟩:=Ty.In_mk.1 hin
 have HR:=Lib.hid hrow
 have HA:=Lib.hid hall
 have IH:=Lib.hid ih
 have HM:=Lib.hid hm
 clear hin hrow hall ih hm
 have HBW:=Lib.hid ((Below.refl w.heap.size w).alloc (Nat.le_refl _) (.cells #[.map (some b),.map (some c),.map (some x)] 63))
 have HB0:=Lib.hid (HBW.out.alloc (by simp) (.cells #[.string d,.string n,.slice A l.length cc] 25))
 rw [Ty.known_mk]
 unfold Ty.val isDo wVal
 simp only [Ty.dof,Ty.name,Ty.at_,Ty.cap,Ty.args]
 obtain ⟨vp,vq,vm,vk,hvv⟩ : ∃ p q m k,ofV ((lookL L n).getD zDt) = .agg #[.string p,.slice q m k]:=by
  cases hl : lookL L n with
  | none => exact ⟨_,_,_,_,rfl⟩
  | some v => exact hL n v hl
 have HVV:=Lib.hid hvv
 clear hvv
 have hlook : inL L n = (lookL L n).isSome:=rfl
 obtain ⟨hs,hhs⟩ : ∃ b,inL L n = b:=⟨_,rfl⟩
 rw [hhs] at hlook ⊢
 have HLK:=Lib.hid hlook
 clear hlook hhs
 obtain ⟨tv,hv⟩ : ∃ t,(d.toList == [118,97,114]) = t:=⟨_,rfl⟩
 obtain ⟨td,hd2⟩ : ∃ t,(d.toList == [100,97,116,97]) = t:=⟨_,rfl⟩
 rw [hv,hd2]
 have HB1:=Lib.hid (HB0.out.alloc (by simp; omega) (.cells #[.string vp,.slice vq vm vk] 111))
 have HM0:=Lib.hid (HM.out.next HB1.out)
 have YM:=Lib.hid (show Blk (((w.alloc (.cells #[.map (some b),.map (some c),.map (some x)] 63)).alloc (.cells #[.string d,.string n,.slice A l.length cc] 25)).alloc (.cells #[.string vp,.slice vq vm vk] 111)) w.heap.size #[.map (some b),.map (some c),.map (some x)] 63 from ((Blk.new w _ _).alloc _).alloc _)
 have HCONT:=Lib.hid (fun (W1 : World) (hW : W1 = ((w.alloc (.cells #[.map (some b),.map (some c),.map (some x)] 63)).alloc (.cells #[.string d,.string n,.slice A l.length cc] 25)).alloc (.cells #[.string vp,.slice vq vm vk] 111)) => containsTy 112 (enters_of Tryz.func112 (by kernel_rfl) rfl) #[.pointer (some ⟨w.heap.size,0,none⟩)] l A cc W1
   (fun k W => Below W1.heap.size W1 W ∧ (l.take k).all (fun t => t.known (inL L)) = true) (fun k W => Below W1.heap.size W1 W ∧ l.all (fun t => t.known (inL L)) = false) hl
   (fun k W hh => ⟨_,HR.out.keep (HB1.out.trans ((hW ▸ hh.1 : Below _ _ _).mono HB1.out.size))⟩) ⟨Below.refl _ _,rfl⟩
   (fun k W q hq ⟨hb,hw⟩ => by
    subst hW
    have hm:=List.mem_of_getElem? hq
    have hbw:=HB1.out.trans (hb.mono HB1.out.size)
    have hqi:=(HA.out q hm).at_ hbw hbw.size
    have hmm:=HM.out.next hbw
    obtain ⟨x0,x1,x2⟩:=(YM.out.below hb YM.out.lt).three
    have xl : w.heap.size < W.heap.size:=(YM.out.below hb YM.out.lt).lt
    have HB2:=Lib.hid ((Below.refl W.heap.size W).alloc (Nat.le_refl _) (.cells #[.string q.dof,.string q.name,.slice q.at_ q.args.length q.cap] 25))
    have HCC:=Lib.hid (IH.out q hm _ (hqi.next HB2.out) (hmm.next HB2.out))
    have hcl : Calls Tryz.prog 112 (#[q.val] ++ #[.pointer (some ⟨w.heap.size,0,none⟩)]) W fun e W' => e = .returned (.bool (!q.known (inL L))) ∧ Below W.heap.size W W':=by
     clear hqi hbw hb hw hmm HM HM0 HB1 HB0 HBW YM HVV HLK
     unfold Ty.val wVal at *
     show Calls _ _ #[_,_] _ _
     go_enter Tryz.func112,Tryz.ntmps112
     go_wp2_with fail
     refine Calls.mono HCC.out ?_
     rintro e w1 ⟨rfl,hb1⟩
     have HB3:=Lib.hid (HB2.out.trans (hb1.mono HB2.out.size))
     clear hb1
     go_wp2_with fail
     go_ret
     exact ⟨rfl,HB3.out⟩
    refine Calls.mono hcl ?_
    rintro e W' ⟨rfl,hb2⟩
    have hb3:=hb.trans (hb2.mono hb.size)
    cases hr : q.known (inL L)
    ·exact .inl ⟨rfl,hb3,all_no hq hr⟩
    ·exact .inr ⟨rfl,hb3,all_take_succ hq hw hr⟩))
 have HEND:=Lib.hid (fun (bb : Bool) (hbb : (!false && (!(bb && !hs))) = true) => hbb)
 cases tv
 case true =>
  go_enter Tryz.func70,Tryz.ntmps70
  go_wp2_with (first | (at_lookup; refine map_look rfl _ _ 59 111 rfl Tryz.underlying59 zDt (zeroDt _) rfl (HM.out.next HB0.out) n hn rfl ofV_inj ?_; rw [← HLK.out,HVV.out]) | fail)
  go_ret
  exact ⟨by simp,HB1.out⟩
 cases td
 ·go_enter Tryz.func70,Tryz.ntmps70
  go_wp2_with (first | (at_lookup; refine map_look rfl _ _ 59 111 rfl Tryz.underlying59 zDt (zeroDt _) rfl (HM.out.next HB0.out) n hn rfl ofV_inj ?_; rw [← HLK.out,HVV.out]) | fail)
  refine Calls.mono (HCONT.out _ rfl) ?_
  rintro e w2 (⟨i,hi,rfl,hb2,hno⟩ | ⟨rfl,hb2,hyes⟩)
  ·have HB2:=Lib.hid (HB1.out.trans (hb2.mono HB1.out.size))
   have HN:=Lib.hid hno
   clear hb2 hno
   go_wp2_with fail
   go_ret
   exact ⟨by rw [HN.out]; rfl,HB2.out⟩
  ·have HB2:=Lib.hid (HB1.out.trans (hb2.mono HB1.out.size))
   rw [List.take_length] at hyes
   have HN:=Lib.hid hyes
   clear hb2 hyes
   go_wp2_with fail
   go_ret
   exact ⟨by rw [HN.out]; rfl,HB2.out⟩
 cases hs
 ·go_enter Tryz.func70,Tryz.ntmps70
  go_wp2_with (first | (at_lookup; refine map_look rfl _ _ 59 111 rfl Tryz.underlying59 zDt (zeroDt _) rfl (HM.out.next HB0.out) n hn rfl ofV_inj ?_; rw [← HLK.out,HVV.out]) | fail)
  go_ret
  exact ⟨by simp,HB1.out⟩
 ·go_enter Tryz.func70,Tryz.ntmps70
  go_wp2_with (first | (at_lookup; refine map_look rfl _ _ 59 111 rfl Tryz.underlying59 zDt (zeroDt _) rfl (HM.out.next HB0.out) n hn rfl ofV_inj ?_; rw [← HLK.out,HVV.out]) | fail)
  refine Calls.mono (HCONT.out _ rfl) ?_
  rintro e w2 (⟨i,hi,rfl,hb2,hno⟩ | ⟨rfl,hb2,hyes⟩)
  ·have HB2:=Lib.hid (HB1.out.trans (hb2.mono HB1.out.size))
   have HN:=Lib.hid hno
   clear hb2 hno
   go_wp2_with fail
   go_ret
   exact ⟨by rw [HN.out]; rfl,HB2.out⟩
  ·have HB2:=Lib.hid (HB1.out.trans (hb2.mono HB1.out.size))
   rw [List.take_length] at hyes
   have HN:=Lib.hid hyes
   clear hb2 hyes
   go_wp2_with fail
   go_ret
   exact ⟨by rw [HN.out]; rfl,HB2.out⟩
def Ty.there (L : List (ByteArray × Value)) (t : Ty) : Bool:=t.valid (kindB .con) && t.known (inL L)
set_option maxHeartbeats 1000000 in
theorem there_any (b c x nb : Nat) (L : List (ByteArray × Value)) (hL : ∀ s v,lookL L s = some v → ∃ p q m k,v = .agg #[.string p,.slice q m k]) (t : Ty) (w : World) (h : Env w) (hin : t.In w.heap.size w) (hm : MapAt ofV w b nb L) :
  Calls Tryz.prog 35 #[wVal b c x,t.val] w fun e w' => e = .returned (.bool (t.there L)) ∧ Below w.heap.size w w':=by
 have HE:=Lib.hid h
 have HI:=Lib.hid hin
 have HM:=Lib.hid hm
 have HC1:=Lib.hid (fun (W : World) (hp : t.In W.heap.size W) (he : Env W) => validType_any t W he hp)
 have HC2:=Lib.hid (fun (W : World) (hp : t.In W.heap.size W) (hm : MapAt ofV W b nb L) => known_any b c x nb L hL t W hp hm)
 unfold Ty.there
 clear h hin hm
 have HB0:=Lib.hid (((Below.refl w.heap.size w).alloc (Nat.le_refl _) (.cells #[.map (some b),.map (some c),.map (some x)] 63)).alloc (by simp) (.cells #[.string t.dof,.string t.name,.slice t.at_ t.args.length t.cap] 25))
 have K1:=Lib.hid ((Blk.new w #[.map (some b),.map (some c),.map (some x)] 63).alloc (.cells #[.string t.dof,.string t.name,.slice t.at_ t.args.length t.cap] 25))
 have K2:=Lib.hid (Blk.new' (w.alloc (.cells #[.map (some b),.map (some c),.map (some x)] 63)) #[.string t.dof,.string t.name,.slice t.at_ t.args.length t.cap] 25 (w.heap.size + 1) (by simp))
 generalize t.valid (kindB .con) = ok at HC1 ⊢
 generalize t.known (inL L) = kn at HC2 ⊢
 unfold Ty.val wVal at *
 cases ok
 all_goals
  go_enter Tryz.func35,Tryz.ntmps35
  go_wp2_with fail
  refine Calls.mono (HC1.out _ (HI.out.at_ HB0.out HB0.out.size) (HE.out.next HB0.out)) ?_
  rintro e w1 ⟨rfl,hb1⟩
  obtain ⟨y0,y1,y2⟩:=(K1.out.below hb1 K1.out.lt).three
  obtain ⟨z0,z1,z2⟩:=(K2.out.below hb1 K2.out.lt).three
  have HB1:=Lib.hid (HB0.out.trans (hb1.mono HB0.out.size))
  have yl:=(K2.out.below hb1 K2.out.lt).lt
  have yl0:=(K1.out.below hb1 K1.out.lt).lt
  clear hb1
  go_wp2_with fail
 ·go_ret
  exact ⟨rfl,HB1.out⟩
 ·refine Calls.mono (HC2.out _ (HI.out.at_ HB1.out HB1.out.size) (HM.out.next HB1.out)) ?_
  rintro e w2 ⟨rfl,hb2⟩
  have HB2:=Lib.hid (HB1.out.trans (hb2.mono HB1.out.size))
  clear hb2
  go_wp2_with fail
  go_ret
  exact ⟨by simp,HB2.out⟩
end Go.Proofs.YtjeggkfgdhepaaaGreatDoor

namespace Go.Proofs.YtjeggkfgdhepaaaGreatDoor
open Go.RowKit
open Go.Proofs
open Go.Maps
def madeV (dn : ByteArray) (i : Nat) (c : Cn) : Value:=.agg #[.string dn,.int .i64 i,.string c.name,.bool c.has,.string c.ty.dof,.string c.ty.name,.slice c.ty.at_ c.ty.args.length c.ty.cap]
def dTo (l : List Dt) (k : Nat) : List (ByteArray × Value):=(l.take k).reverse.map fun d => (d.name,d.val)
def cTo (dn : ByteArray) : List Cn → Nat → List (ByteArray × Value)
 | _,0 => []
 | cs,j + 1 => match cs[j]? with | some c => (c.name,madeV dn j c) :: cTo dn cs j | none => cTo dn cs j
def lTo (l : List Dt) (k : Nat) : List (ByteArray × Value):=(l.take k).reverse.flatMap fun d => cTo d.name d.cons d.cons.length
theorem dTo_succ {l : List Dt} {k : Nat} {q : Dt} (h : l[k]? = some q) : dTo l (k + 1) = (q.name,q.val) :: dTo l k:=by
 unfold dTo
 rw [List.take_add_one,h]
 simp
theorem lTo_succ {l : List Dt} {k : Nat} {q : Dt} (h : l[k]? = some q) : lTo l (k + 1) = cTo q.name q.cons q.cons.length ++ lTo l k:=by
 unfold lTo
 rw [List.take_add_one,h]
 simp
theorem cTo_succ {dn : ByteArray} {cs : List Cn} {j : Nat} {c : Cn} (h : cs[j]? = some c) : cTo dn cs (j + 1) = (c.name,madeV dn j c) :: cTo dn cs j:=by rw [cTo,h]
theorem cTo_len {dn : ByteArray} {cs : List Cn} : ∀ {j : Nat},j ≤ cs.length → (cTo dn cs j).length = j
 | 0,_ => by simp [cTo]
 | j + 1,h => by
  rw [cTo,List.getElem?_eq_getElem (by omega)]
  simp [cTo_len (Nat.le_of_succ_le h)]
def consN (l : List Dt) (k : Nat) : Nat:=((l.take k).map fun d => d.cons.length).sum
theorem consN_succ {l : List Dt} {k : Nat} {q : Dt} (h : l[k]? = some q) : consN l (k + 1) = consN l k + q.cons.length:=by
 unfold consN
 rw [List.take_add_one,h]
 simp
theorem consN_le (l : List Dt) (k : Nat) : consN l k ≤ consN l l.length:=by
 unfold consN
 rw [List.take_length]
 conv => rhs; rw [← List.take_append_drop k l]
 rw [List.map_append,List.sum_append]
 omega
theorem lTo_len {l : List Dt} : ∀ {k : Nat},k ≤ l.length → (lTo l k).length = consN l k
 | 0,_ => by simp [lTo,consN]
 | k + 1,h => by
  obtain ⟨q,hq⟩ : ∃ q,l[k]? = some q:=⟨_,List.getElem?_eq_getElem (by omega)⟩
  rw [lTo_succ hq,consN_succ hq,List.length_append,cTo_len (Nat.le_refl _),lTo_len (by omega)]
  omega
structure NWAt (w : World) (b0 b1 b2 b3 b4 b5 : Nat) (pv : Array Value) (wr : World) (n1 n2 n3 : Nat) (L1 L2 L3 : List (ByteArray × Value)) : Prop where
 bel : Below w.heap.size w wr
 size : w.heap.size + 6 ≤ wr.heap.size
 at_ : b0 = w.heap.size ∧ b1 = w.heap.size + 1 ∧ b2 = w.heap.size + 2 ∧ b3 = w.heap.size + 3 ∧ b4 = w.heap.size + 4 ∧ b5 = w.heap.size + 5
 prog : Blk wr b0 pv 109
 res : Blk wr b1 #[.map none,.map none,.map none] 63
 cell : Blk wr b5 #[.map (some b2),.map (some b3),.map (some b4)] 63
 m1 : MapAt ofV wr b2 n1 L1
 m2 : MapAt ofV wr b3 n2 L2
 m3 : MapAt ofV wr b4 n3 L3
section
variable {w wr w' : World} {b0 b1 b2 b3 b4 b5 n1 n2 n3 : Nat} {pv : Array Value} {L1 L2 L3 L : List (ByteArray × Value)}
theorem NWAt.next (h : NWAt w b0 b1 b2 b3 b4 b5 pv wr n1 n2 n3 L1 L2 L3) (hb : Below wr.heap.size wr w') : NWAt w b0 b1 b2 b3 b4 b5 pv w' n1 n2 n3 L1 L2 L3:=
 ⟨h.bel.trans (hb.mono h.bel.size),Nat.le_trans h.size hb.size,h.at_,h.prog.below hb h.prog.lt,h.res.below hb h.res.lt,h.cell.below hb h.cell.lt,h.m1.next hb,h.m2.next hb,h.m3.next hb⟩
theorem NWAt.alloc (h : NWAt w b0 b1 b2 b3 b4 b5 pv wr n1 n2 n3 L1 L2 L3) (o : Obj) : NWAt w b0 b1 b2 b3 b4 b5 pv (wr.alloc o) n1 n2 n3 L1 L2 L3:=h.next ((Below.refl _ _).alloc (Nat.le_refl _) _)
theorem NWAt.put1 (h : NWAt w b0 b1 b2 b3 b4 b5 pv wr n1 n2 n3 L1 L2 L3) {n : Nat} (hm : MapAt ofV w' b2 n L) (hg : wr.grownBy w' (some b2)) : NWAt w b0 b1 b2 b3 b4 b5 pv w' n n2 n3 L L2 L3:=by
 obtain ⟨e0,e1,e2,e3,e4,e5⟩:=h.at_
 have hs:=h.size
 have hk : ∀ k,k < w.heap.size + 6 → k ≠ b2 → w'.heap[k]? = wr.heap[k]?:=fun k hk hne => hg.block k (by omega) (by simpa using hne)
 exact ⟨h.bel.grown hg (by omega) (fun k hk => by simp only [Option.some.injEq] at hk; omega),Nat.le_trans hs hg.size,h.at_,(hk _ (by omega) (by omega)).trans h.prog,(hk _ (by omega) (by omega)).trans h.res,(hk _ (by omega) (by omega)).trans h.cell,hm,h.m2.block (hk _ (by omega) (by omega)),h.m3.block (hk _ (by omega) (by omega))⟩
theorem NWAt.put2 (h : NWAt w b0 b1 b2 b3 b4 b5 pv wr n1 n2 n3 L1 L2 L3) {n : Nat} (hm : MapAt ofV w' b3 n L) (hg : wr.grownBy w' (some b3)) : NWAt w b0 b1 b2 b3 b4 b5 pv w' n1 n n3 L1 L L3:=by
 obtain ⟨e0,e1,e2,e3,e4,e5⟩:=h.at_
 have hs:=h.size
 have hk : ∀ k,k < w.heap.size + 6 → k ≠ b3 → w'.heap[k]? = wr.heap[k]?:=fun k hk hne => hg.block k (by omega) (by simpa using hne)
 exact ⟨h.bel.grown hg (by omega) (fun k hk => by simp only [Option.some.injEq] at hk; omega),Nat.le_trans hs hg.size,h.at_,(hk _ (by omega) (by omega)).trans h.prog,(hk _ (by omega) (by omega)).trans h.res,(hk _ (by omega) (by omega)).trans h.cell,h.m1.block (hk _ (by omega) (by omega)),hm,h.m3.block (hk _ (by omega) (by omega))⟩
theorem NWAt.put3 (h : NWAt w b0 b1 b2 b3 b4 b5 pv wr n1 n2 n3 L1 L2 L3) {n : Nat} (hm : MapAt ofV w' b4 n L) (hg : wr.grownBy w' (some b4)) : NWAt w b0 b1 b2 b3 b4 b5 pv w' n1 n2 n L1 L2 L:=by
 obtain ⟨e0,e1,e2,e3,e4,e5⟩:=h.at_
 have hs:=h.size
 have hk : ∀ k,k < w.heap.size + 6 → k ≠ b4 → w'.heap[k]? = wr.heap[k]?:=fun k hk hne => hg.block k (by omega) (by simpa using hne)
 exact ⟨h.bel.grown hg (by omega) (fun k hk => by simp only [Option.some.injEq] at hk; omega),Nat.le_trans hs hg.size,h.at_,(hk _ (by omega) (by omega)).trans h.prog,(hk _ (by omega) (by omega)).trans h.res,(hk _ (by omega) (by omega)).trans h.cell,h.m1.block (hk _ (by omega) (by omega)),h.m2.block (hk _ (by omega) (by omega)),hm⟩
end
def zConV (n : ByteArray) : Value:=.agg #[.string n,.bool false,.string emptyS,.string emptyS,.slice none 0 0]
def exnName (i : Nat) : ByteArray:=match i with | 0 => ⟨#[68,105,118]⟩ | 1 => ⟨#[83,105,122,101]⟩ | 2 => ⟨#[83,117,98,115,99,114,105,112,116]⟩ | _ => ⟨#[77,97,116,99,104]⟩
def eTo : Nat → List (ByteArray × Value)
 | 0 => []
 | k + 1 => (exnName k,zConV (exnName k)) :: eTo k
def progV (A : Option Addr) (n c : Nat) : Array Value:=#[.slice A n c,.slice none 0 0,.slice none 0 0,.string emptyS,.string emptyS,.string emptyS,.string emptyS,.int .i64 0,.slice none 0 0,.slice none 0 0,.string emptyS,.string emptyS,.slice none 0 0,.slice none 0 0,.slice none 0 0]
def NewPost (l : List Dt) (w : World) (e : Ending) (w' : World) : Prop:=
 ∃ bD bC bE,e = .returned (wVal bD bC bE) ∧ Below w.heap.size w w' ∧ MapAt ofV w' bD l.length (dTo l l.length) ∧ MapAt ofV w' bC (consN l l.length) (lTo l l.length) ∧ MapAt ofV w' bE 4 (eTo 4)
theorem exn_name_size (i : Nat) : (exnName i).size ≤ 1099511627776:=by
 unfold exnName
 split <;> decide
set_option maxRecDepth 100000 in
set_option maxHeartbeats 4000000 in
theorem newWorld_any (A : Option Addr) (l : List Dt) (c : Nat) (w : World) (hrow : RowAt w.heap.size w 2 A (l.map Dt.cells)) (hall : ∀ d ∈ l,d.In w.heap.size w) (hl : l.length ≤ 1048576) (hn : consN l l.length ≤ 1048576) :
  Calls Tryz.prog 65 #[.agg (progV A l.length c)] w (NewPost l w):=by
 have HR:=Lib.hid hrow
 have HA:=Lib.hid hall
 have HN:=Lib.hid hn
 clear hrow hall hn
 have h0 : NWAt w w.heap.size (w.heap.size + 1) (w.heap.size + 1 + 1) (w.heap.size + 1 + 1 + 1) (w.heap.size + 1 + 1 + 1 + 1) (w.heap.size + 1 + 1 + 1 + 1 + 1) (progV A l.length c)
   ((((((w.alloc (.cells (progV A l.length c) 109)).alloc (.cells #[.map none,.map none,.map none] 63)).alloc (.map #[] 0)).alloc (.map #[] 0)).alloc (.map #[] 0)).alloc (.cells #[.map (some (w.heap.size + 1 + 1)),.map (some (w.heap.size + 1 + 1 + 1)),.map (some (w.heap.size + 1 + 1 + 1 + 1))] 63)) 0 0 0 [] [] []:=by
  refine ⟨((((((Below.refl _ _).alloc (Nat.le_refl _) _).alloc (by simp) _).alloc (by simp; omega) _).alloc (by simp; omega) _).alloc (by simp; omega) _).alloc (by simp; omega) _,by simp,by simp, ?_, ?_, ?_, ?_, ?_, ?_⟩
  ·exact ((((((Blk.new w _ _).alloc _).alloc _).alloc _).alloc _).alloc _)
  ·exact ((((Blk.new' _ _ _ _ (by simp)).alloc _).alloc _).alloc _).alloc _
  ·exact Blk.new' _ _ _ _ (by simp)
  ·have h:=((MapAt.made ofV ((w.alloc (.cells (progV A l.length c) 109)).alloc (.cells #[.map none,.map none,.map none] 63))).next ((Below.refl _ _).alloc (Nat.le_refl _) (.map #[] 0))).next ((Below.refl _ _).alloc (Nat.le_refl _) (.map #[] 0)) |>.next ((Below.refl _ _).alloc (Nat.le_refl _) (.cells #[.map (some (w.heap.size + 1 + 1)),.map (some (w.heap.size + 1 + 1 + 1)),.map (some (w.heap.size + 1 + 1 + 1 + 1))] 63))
   simpa using h
  ·have h:=(MapAt.made ofV (((w.alloc (.cells (progV A l.length c) 109)).alloc (.cells #[.map none,.map none,.map none] 63)).alloc (.map #[] 0))).next ((Below.refl _ _).alloc (Nat.le_refl _) (.map #[] 0)) |>.next ((Below.refl _ _).alloc (Nat.le_refl _) (.cells #[.map (some (w.heap.size + 1 + 1)),.map (some (w.heap.size + 1 + 1 + 1)),.map (some (w.heap.size + 1 + 1 + 1 + 1))] 63))
   simpa using h
  ·have h:=(MapAt.made ofV ((((w.alloc (.cells (progV A l.length c) 109)).alloc (.cells #[.map none,.map none,.map none] 63)).alloc (.map #[] 0)).alloc (.map #[] 0))).next ((Below.refl _ _).alloc (Nat.le_refl _) (.cells #[.map (some (w.heap.size + 1 + 1)),.map (some (w.heap.size + 1 + 1 + 1)),.map (some (w.heap.size + 1 + 1 + 1 + 1))] 63))
   simpa using h
 have H0:=Lib.hid h0
 clear h0
 unfold progV at *
 have hmm:=@run_makeMap Tryz.prog
 go_enter Tryz.func65,Tryz.ntmps65
 go_wp2_with fail
 generalize ((((((w.alloc (.cells #[.slice A l.length c,.slice none 0 0,.slice none 0 0,.string emptyS,.string emptyS,.string emptyS,.string emptyS,.int .i64 0,.slice none 0 0,.slice none 0 0,.string emptyS,.string emptyS,.slice none 0 0,.slice none 0 0,.slice none 0 0] 109)).alloc (.cells #[.map none,.map none,.map none] 63)).alloc (.map #[] 0)).alloc (.map #[] 0)).alloc (.map #[] 0)).alloc (.cells #[.map (some (w.heap.size + 1 + 1)),.map (some (w.heap.size + 1 + 1 + 1)),.map (some (w.heap.size + 1 + 1 + 1 + 1))] 63)) = w0 at H0 ⊢
 clear hmm
 generalize w.heap.size + 1 + 1 + 1 + 1 + 1 = b5 at H0 ⊢
 generalize w.heap.size + 1 + 1 + 1 + 1 = b4 at H0 ⊢
 generalize w.heap.size + 1 + 1 + 1 = b3 at H0 ⊢
 generalize w.heap.size + 1 + 1 = b2 at H0 ⊢
 generalize hb1 : w.heap.size + 1 = b1 at H0 ⊢
 generalize hb0 : w.heap.size = b0 at H0 ⊢
 have HPV:=Lib.hid (show (#[Value.slice A l.length c,.slice none 0 0,.slice none 0 0,.string emptyS,.string emptyS,.string emptyS,.string emptyS,.int .i64 0,.slice none 0 0,.slice none 0 0,.string emptyS,.string emptyS,.slice none 0 0,.slice none 0 0,.slice none 0 0])[1]? = some (.slice none 0 0) from rfl)
 generalize #[Value.slice A l.length c,.slice none 0 0,.slice none 0 0,.string emptyS,.string emptyS,.string emptyS,.string emptyS,.int .i64 0,.slice none 0 0,.slice none 0 0,.string emptyS,.string emptyS,.slice none 0 0,.slice none 0 0,.slice none 0 0] = pv at H0 HPV ⊢
 go_loopw [19] (fun iv wr => ∃ k : Nat,iv = .int .i64 k ∧ k ≤ l.length ∧ Hid (NWAt w b0 b1 b2 b3 b4 b5 pv wr k (consN l k) 0 (dTo l k) (lTo l k) [])) (fun iv _ => l.length - (intOf iv).toNat)
 case atStart => exact ⟨0,rfl,Nat.zero_le _,Lib.hid (by simpa [consN,dTo,lTo] using H0.out)⟩
 case round =>
  obtain ⟨k,rfl,hk,HW⟩:=hrel
  by_cases hlt : k < l.length
  ·obtain ⟨q,b,off,hq,hmem,rfl,hb,x0,x1⟩:=Dt.arg_at HR.out HW.out.bel hlt
   have HQ:=Lib.hid hq
   have hqi:=HA.out q hmem
   have hcn:=consN_succ hq
   have hcl:=consN_le l (k + 1)
   have hnn:=HN.out
   rcases q with ⟨qn,qa,qc,qs⟩
   obtain ⟨hqn,hql,-,hqr,hqa⟩:=hqi
   simp only at hqn hql hqr hqa x0 x1 hcn
   have HQR:=Lib.hid hqr
   have HQA:=Lib.hid hqa
   obtain ⟨y0,y1,y2⟩:=HW.out.cell.three
   have yl:=HW.out.cell.lt
   have HW1:=Lib.hid (HW.out.alloc (.cells #[.string qn,.slice qa qs.length qc] 111))
   have HBX:=Lib.hid (Blk.new wr #[.string qn,.slice qa qs.length qc] 111)
   clear hq hqr hqa
   go_wp2_with (at_mapUpdate; go_must (refine map_put rfl _ _ _ 59 111 rfl Tryz.underlying59 rfl HW1.out.m1 (by omega) qn hqn rfl (.agg #[.string qn,.slice qa qs.length qc]) rfl ?_))
   intro w1 hm1 hg1
   have HW2 : Hid (NWAt w b0 b1 b2 b3 b4 b5 pv w1 (k + 1) (consN l k) 0 (dTo l (k + 1)) (lTo l k) []):=Lib.hid (by rw [dTo_succ HQ.out]; exact HW1.out.put1 hm1 hg1)
   have hbx1 : Blk w1 wr.heap.size #[.string qn,.slice qa qs.length qc] 111:=(hg1.block _ (by simp) (by have:=HW.out.size; have:=HW.out.at_; simp; omega)).trans HBX.out
   have HBX1:=Lib.hid hbx1
   clear hm1 hg1 y0 y1 y2 yl x0 x1 hbx1
   obtain ⟨y0,y1,y2⟩:=HW2.out.cell.three
   obtain ⟨z0,z1⟩:=HBX1.out.two
   have yl:=HW2.out.cell.lt
   have zl:=HBX1.out.lt
   have hbd : wr.heap.size ≠ b3:=by have:=HW.out.size; have:=HW.out.at_; omega
   generalize wr.heap.size = bd at HBX1 z0 z1 zl hbd ⊢
   go_wp2_with fail
   clear y0 y1 y2 z0 z1 yl zl
   go_loopw [31] (fun jv wr => ∃ j : Nat,jv = .int .i64 j ∧ j ≤ qs.length ∧ Hid (NWAt w b0 b1 b2 b3 b4 b5 pv wr (k + 1) (consN l k + j) 0 (dTo l (k + 1)) (cTo qn qs j ++ lTo l k) []) ∧ Hid (Blk wr bd #[.string qn,.slice qa qs.length qc] 111)) (fun jv _ => qs.length - (intOf jv).toNat)
   case atStart => exact ⟨0,rfl,Nat.zero_le _,Lib.hid (by simpa [cTo] using HW2.out),HBX1.out⟩
   case round =>
    obtain ⟨j,rfl,hj,HV,HBY⟩:=hrel
    by_cases hlt2 : j < qs.length
    ·obtain ⟨r,b',off',hr,hrmem,rfl,hb',x0,x1,x2,x3,x4⟩:=Cn.arg_at HQR.out HV.out.bel hlt2
     have HRR:=Lib.hid hr
     have hrn:=(HQA.out r hrmem).1
     obtain ⟨y0,y1,y2⟩:=HV.out.cell.three
     obtain ⟨z0,z1⟩:=HBY.out.two
     have yl:=HV.out.cell.lt
     have zl:=HBY.out.lt
     have HV1:=Lib.hid (HV.out.alloc (.cells #[.string r.name,.bool r.has,.string r.ty.dof,.string r.ty.name,.slice r.ty.at_ r.ty.args.length r.ty.cap] 117))
     have HBY1:=Lib.hid (HBY.out.alloc (.cells #[.string r.name,.bool r.has,.string r.ty.dof,.string r.ty.name,.slice r.ty.at_ r.ty.args.length r.ty.cap] 117))
     clear hr
     go_wp2_with (at_mapUpdate; go_must (refine map_put rfl _ _ _ 60 119 rfl Tryz.underlying60 rfl HV1.out.m2 (by omega) r.name hrn rfl (madeV qn j r) rfl ?_))
     intro w2 hm2 hg2
     have HV2 : Hid (NWAt w b0 b1 b2 b3 b4 b5 pv w2 (k + 1) (consN l k + (j + 1)) 0 (dTo l (k + 1)) (cTo qn qs (j + 1) ++ lTo l k) []):=Lib.hid (by rw [cTo_succ HRR.out]; exact HV1.out.put2 hm2 hg2)
     have HBY2:=Lib.hid ((hg2.block _ HBY1.out.lt (by simpa using hbd)).trans HBY1.out)
     clear hm2 hg2
     go_wp2_with fail
     refine ⟨⟨j + 1,by go_num,by omega,HV2.out,HBY2.out⟩,by simp [intOf]; omega⟩
    ·have hj2 : j = qs.length:=by omega
     have HV3 : Hid (NWAt w b0 b1 b2 b3 b4 b5 pv wr (k + 1) (consN l (k + 1)) 0 (dTo l (k + 1)) (lTo l (k + 1)) []):=Lib.hid (by rw [lTo_succ HQ.out,hcn,← hj2]; exact HV.out)
     clear hj2
     go_wp2_with fail
     refine ⟨⟨k + 1,by go_num,by omega,HV3.out⟩,by simp [intOf]; omega⟩
  ·have hk2 : k = l.length:=by omega
   have HW2 : Hid (NWAt w b0 b1 b2 b3 b4 b5 pv wr l.length (consN l l.length) 0 (dTo l l.length) (lTo l l.length) []):=Lib.hid (by have h:=HW.out; rw [hk2] at h; exact h)
   have yl:=HW2.out.cell.lt
   have hbs : wr.heap.size ≠ b4:=by have:=HW.out.size; have:=HW.out.at_; omega
   have HW3:=Lib.hid (HW2.out.alloc (.cells #[.string ⟨#[68,105,118]⟩,.string ⟨#[83,105,122,101]⟩,.string ⟨#[83,117,98,115,99,114,105,112,116]⟩,.string ⟨#[77,97,116,99,104]⟩] 9))
   have HBS:=Lib.hid (Blk.new wr #[.string ⟨#[68,105,118]⟩,.string ⟨#[83,105,122,101]⟩,.string ⟨#[83,117,98,115,99,114,105,112,116]⟩,.string ⟨#[77,97,116,99,104]⟩] 9)
   go_wp2_with fail
   generalize wr.alloc (.cells #[.string ⟨#[68,105,118]⟩,.string ⟨#[83,105,122,101]⟩,.string ⟨#[83,117,98,115,99,114,105,112,116]⟩,.string ⟨#[77,97,116,99,104]⟩] 9) = wx at HW3 HBS ⊢
   generalize wr.heap.size = bs at hbs HBS ⊢
   clear hk2 HW2 HW yl
   go_loopw [49] (fun iv wr => ∃ k : Nat,iv = .int .i64 k ∧ k ≤ 4 ∧ Hid (NWAt w b0 b1 b2 b3 b4 b5 pv wr l.length (consN l l.length) k (dTo l l.length) (lTo l l.length) (eTo k)) ∧ Hid (Blk wr bs #[.string ⟨#[68,105,118]⟩,.string ⟨#[83,105,122,101]⟩,.string ⟨#[83,117,98,115,99,114,105,112,116]⟩,.string ⟨#[77,97,116,99,104]⟩] 9)) (fun iv _ => 4 - (intOf iv).toNat)
   case atStart => exact ⟨0,rfl,Nat.zero_le _,HW3.out,HBS.out⟩
   case round =>
    obtain ⟨k,rfl,hk,HV,HB⟩:=hrel
    obtain ⟨y0,y1,y2⟩:=HV.out.cell.three
    obtain ⟨z0,z1,z2,z3⟩:=HB.out.four
    have yl:=HV.out.cell.lt
    have zl:=HB.out.lt
    by_cases hlt : k < 4
    ·have hrep : ∀ (w' : World) (s : ByteArray),s = exnName k → MapAt ofV w' b4 (k + 1) ((s,zConV s) :: eTo k) → wr.grownBy w' (some b4) → Hid (NWAt w b0 b1 b2 b3 b4 b5 pv w' l.length (consN l l.length) (k + 1) (dTo l l.length) (lTo l l.length) (eTo (k + 1))) ∧ Hid (Blk w' bs #[.string ⟨#[68,105,118]⟩,.string ⟨#[83,105,122,101]⟩,.string ⟨#[83,117,98,115,99,114,105,112,116]⟩,.string ⟨#[77,97,116,99,104]⟩] 9):=fun w' s hs hm hg =>
      ⟨Lib.hid (by subst hs; exact HV.out.put3 hm hg),Lib.hid ((hg.block _ HB.out.lt (by simpa using hbs)).trans HB.out)⟩
     have HREP:=Lib.hid hrep
     clear hrep
     have h4 : k = 0 ∨ k = 1 ∨ k = 2 ∨ k = 3:=by omega
     rcases h4 with rfl | rfl | rfl | rfl
     ·go_wp2_with (at_mapUpdate; go_must (refine map_put rfl _ _ _ 61 117 rfl Tryz.underlying61 rfl HV.out.m3 (by omega) (exnName 0) (exn_name_size _) rfl (zConV (exnName 0)) rfl ?_))
      intro w2 hm2 hg2
      obtain ⟨hv,hbb⟩:=HREP.out w2 _ rfl hm2 hg2
      clear hm2 hg2
      go_wp2_with fail
      exact ⟨⟨1,by go_num,by omega,hv,hbb⟩,by simp [intOf]⟩
     ·go_wp2_with (at_mapUpdate; go_must (refine map_put rfl _ _ _ 61 117 rfl Tryz.underlying61 rfl HV.out.m3 (by omega) (exnName 1) (exn_name_size _) rfl (zConV (exnName 1)) rfl ?_))
      intro w2 hm2 hg2
      obtain ⟨hv,hbb⟩:=HREP.out w2 _ rfl hm2 hg2
      clear hm2 hg2
      go_wp2_with fail
      exact ⟨⟨2,by go_num,by omega,hv,hbb⟩,by simp [intOf]⟩
     ·go_wp2_with (at_mapUpdate; go_must (refine map_put rfl _ _ _ 61 117 rfl Tryz.underlying61 rfl HV.out.m3 (by omega) (exnName 2) (exn_name_size _) rfl (zConV (exnName 2)) rfl ?_))
      intro w2 hm2 hg2
      obtain ⟨hv,hbb⟩:=HREP.out w2 _ rfl hm2 hg2
      clear hm2 hg2
      go_wp2_with fail
      exact ⟨⟨3,by go_num,by omega,hv,hbb⟩,by simp [intOf]⟩
     ·go_wp2_with (at_mapUpdate; go_must (refine map_put rfl _ _ _ 61 117 rfl Tryz.underlying61 rfl HV.out.m3 (by omega) (exnName 3) (exn_name_size _) rfl (zConV (exnName 3)) rfl ?_))
      intro w2 hm2 hg2
      obtain ⟨hv,hbb⟩:=HREP.out w2 _ rfl hm2 hg2
      clear hm2 hg2
      go_wp2_with fail
      exact ⟨⟨4,by go_num,by omega,hv,hbb⟩,by simp [intOf]⟩
    ·have hk4 : k = 4:=by omega
     subst hk4
     have p1:=(HV.out.prog.cell 1).trans HPV.out
     have pl:=HV.out.prog.lt
     go_wp2_with fail
     go_loopw [62] (fun iv wr => iv = .int .i64 (0 : Nat) ∧ Hid (NWAt w b0 b1 b2 b3 b4 b5 pv wr l.length (consN l l.length) 4 (dTo l l.length) (lTo l l.length) (eTo 4))) (fun iv _ => 0)
     case atStart => exact ⟨rfl,HV.out⟩
     case round =>
      obtain ⟨rfl,HX⟩:=hrel
      clear y0 y1 y2 z0 z1 z2 z3 yl zl
      obtain ⟨y0,y1,y2⟩:=HX.out.cell.three
      obtain ⟨z0,z1,z2⟩:=HX.out.res.three
      have yl:=HX.out.cell.lt
      have zl:=HX.out.res.lt
      have hf0:=HX.out.res.free 0
      have hf1:=HX.out.res.free 1
      have hf2:=HX.out.res.free 2
      go_wp2_with fail
      obtain ⟨e0,e1,e2,e3,e4,e5⟩:=HX.out.at_
      have hres:=((HX.out.res.set 0 (.map (some b2))).set 1 (.map (some b3))).set 2 (.map (some b4))
      have hbel : Below w.heap.size w (((wr.setCell ⟨b1,0,none⟩ (.map (some b2))).setCell ⟨b1,1,none⟩ (.map (some b3))).setCell ⟨b1,2,none⟩ (.map (some b4))):=((HX.out.bel.setCell (by simp; omega) _).setCell (by simp; omega) _).setCell (by simp; omega) _
      have hm : ∀ b n L,MapAt ofV wr b n L → b ≠ b1 → MapAt ofV (((wr.setCell ⟨b1,0,none⟩ (.map (some b2))).setCell ⟨b1,1,none⟩ (.map (some b3))).setCell ⟨b1,2,none⟩ (.map (some b4))) b n L:=fun b n L h hne => h.block (by rw [Below.heap_setCell _ _ _ _ hne,Below.heap_setCell _ _ _ _ hne,Below.heap_setCell _ _ _ _ hne])
      have r0:=hres.cell 0
      have r1:=hres.cell 1
      have r2:=hres.cell 2
      have hp1:=hm _ _ _ HX.out.m1 (by omega)
      have hp2:=hm _ _ _ HX.out.m2 (by omega)
      have hp3:=hm _ _ _ HX.out.m3 (by omega)
      clear hm hres
      generalize ((wr.setCell ⟨b1,0,none⟩ (.map (some b2))).setCell ⟨b1,1,none⟩ (.map (some b3))).setCell ⟨b1,2,none⟩ (.map (some b4)) = w3 at *
      simp only [List.setIfInBounds_toArray,List.set_cons_zero,List.set_cons_succ,List.getElem?_toArray,List.getElem?_cons_zero,List.getElem?_cons_succ] at r0 r1 r2
      exact bodyPost_ret (v:=wVal b2 b3 b4) (by unfold wVal; simp [results,Tryz.results65,go_sem,r0,r1,r2]) rfl ⟨b2,b3,b4,rfl,hbel,hp1,hp2,hp3⟩
end Go.Proofs.YtjeggkfgdhepaaaGreatDoor

namespace Go.Proofs.YtjeggkfgdhepaaaGreatDoor
open Go.RowKit
open Go.Proofs
open Go.Maps
def Cov (L : List (ByteArray × Value)) (w : World) (f : Cn → Bool) (pl : ByteArray → Bool) : Prop:=∀ s v,lookL L s = some v → ∃ dn i c,v = madeV dn i c ∧ c.In w.heap.size w ∧ pl s = (!c.has || f c)
def CovE (L : List (ByteArray × Value)) : Prop:=∀ s v,lookL L s = some v → ∃ n,v = zConV n
def RoundPost (L : List (ByteArray × Value)) (pl : ByteArray → Bool) (w : World) (e : Ending) (w' : World) : Prop:=
 Below w.heap.size w w' ∧ ((e = .returned (.bool true) ∧ ∀ s v,lookL L s = some v → pl s = true) ∨ (e = .returned (.bool false) ∧ ∃ s v,lookL L s = some v ∧ pl s = false))
theorem keyL_same {a b : ByteArray} (h : (keyL a).sameKey (keyL b) = true) : a = b:=by
 by_cases hne : keyL a = keyL b
 ·exact keyL_inj hne
 ·rw [Maps.sameKey_ne hne] at h
  cases h
theorem left_step {L : List (ByteArray × Value)} {left : Lit → Bool} {pl : ByteArray → Bool} (h : ∀ s v,lookL L s = some v → left (keyL s) = false → pl s = true) {x : ByteArray} (hx : pl x = true) :
  ∀ s v,lookL L s = some v → (left (keyL s) && !(keyL s).sameKey (keyL x)) = false → pl s = true:=by
 intro s v hl hs
 rw [Bool.and_eq_false_iff] at hs
 rcases hs with hs | hs
 ·exact h s v hl hs
 ·have:=keyL_same (a:=s) (b:=x) (by simpa using hs)
  rw [this]
  exact hx
set_option maxRecDepth 100000 in
set_option maxHeartbeats 4000000 in
theorem plainW_any (b c x nc ne : Nat) (LC LE : List (ByteArray × Value)) (pl : ByteArray → Bool) (w : World) (hm : MapAt ofV w c nc LC) (hx : MapAt ofV w x ne LE) (hcov : Cov LC w (fun c => c.ty.plain) pl) (hE : CovE LE) :
  Calls Tryz.prog 68 #[wVal b c x] w (RoundPost LC pl w):=by
 have HM:=Lib.hid hm
 have HX:=Lib.hid hx
 have HCOV:=Lib.hid hcov
 have HE:=Lib.hid hE
 clear hm hx hcov hE
 have HB0:=Lib.hid ((Below.refl w.heap.size w).alloc (Nat.le_refl _) (.cells #[.map (some b),.map (some c),.map (some x)] 63))
 have HK0:=Lib.hid (Blk.new w #[.map (some b),.map (some c),.map (some x)] 63)
 unfold wVal
 go_enter Tryz.func68,Tryz.ntmps68
 go_wp2_with (at_range; go_must (refine map_range rfl _ 60 119 rfl Tryz.underlying60 rfl (HM.out.next HB0.out) ?_))
 intro w1 left cnt hr1 hl1 hg1 hs1
 have HR1:=Lib.hid hr1
 have HL1 : Hid (∀ s v,lookL LC s = some v → left (keyL s) = false → pl s = true):=Lib.hid fun s v h1 h2 => by rw [hl1,h1] at h2; cases h2
 have HB1 : Hid (Below w.heap.size w w1):=Lib.hid (HB0.out.grown hg1 (by simp) (fun k hk => by cases hk))
 have HK1 : Hid (Blk w1 w.heap.size #[.map (some b),.map (some c),.map (some x)] 63):=Lib.hid ((hg1.block _ (by simp) (by simp)).trans HK0.out)
 clear hr1 hl1 hg1 hs1
 go_wp2_with fail
 have hrne : w.heap.size ≠ w.heap.size + 1:=by omega
 have hrge : w.heap.size ≤ w.heap.size + 1:=by omega
 generalize w.heap.size + 1 = r at HR1 hrne hrge ⊢
 go_loopw [10] (fun _ wr => ∃ left cnt,Hid (RangeAt ofV wr c r nc LC left cnt) ∧ Hid (Below w.heap.size w wr) ∧ Hid (Blk wr w.heap.size #[.map (some b),.map (some c),.map (some x)] 63) ∧ Hid (∀ s v,lookL LC s = some v → left (keyL s) = false → pl s = true)) (fun _ wr => wr.rangeLeft c r)
 case atStart => exact ⟨left,cnt,HR1.out,HB1.out,HK1.out,HL1.out⟩
 case round =>
  obtain ⟨left,cnt,HR,HB,HK,HL⟩:=hrel
  go_wp2_with (at_next; go_must (refine map_next rfl _ rfl r left cnt rfl HR.out ofV_inj ?_ ?_))
  ·intro hdone
   have HALL : Hid (∀ s v,lookL LC s = some v → pl s = true):=Lib.hid fun s v h => HL.out s v h (hdone _)
   obtain ⟨y0,y1,y2⟩:=HK.out.three
   have yl:=HK.out.lt
   clear hdone
   go_wp2_with (at_range; go_must (refine map_range rfl _ 61 117 rfl Tryz.underlying61 rfl (HX.out.next HB.out) ?_))
   intro w2 left2 cnt2 hr2 hl2 hg2 hs2
   have HR2:=Lib.hid hr2
   have HB2 : Hid (Below w.heap.size w w2):=Lib.hid (HB.out.grown hg2 (Nat.le_of_lt HK.out.lt) (fun k hk => by cases hk))
   clear hr2 hl2 hg2 hs2 y0 y1 y2 yl
   go_wp2_with fail
   have hrge2 : w.heap.size ≤ wr.heap.size:=HB.out.size
   generalize wr.heap.size = r2 at HR2 hrge2 ⊢
   go_loopw [27] (fun _ wr => ∃ left cnt,Hid (RangeAt ofV wr x r2 ne LE left cnt) ∧ Hid (Below w.heap.size w wr)) (fun _ wr => wr.rangeLeft x r2)
   case atStart => exact ⟨left2,cnt2,HR2.out,HB2.out⟩
   case round =>
    obtain ⟨left,cnt,HR3,HB3⟩:=hrel
    go_wp2_with (at_next; go_must (refine map_next rfl _ rfl r2 left cnt rfl HR3.out ofV_inj ?_ ?_))
    ·intro hdone
     clear hdone
     go_wp2_with fail
     go_ret
     exact ⟨HB3.out,.inl ⟨rfl,HALL.out⟩⟩
    ·intro s v w3 cnt3 hlk hlf hr3 hlt hg3 hs3 hen
     obtain ⟨n,rfl⟩:=HE.out s v hlk
     have HB4 : Hid (Below w.heap.size w w3):=Lib.hid (HB3.out.grown hg3 HB3.out.size (fun k hk => by simp only [Option.some.injEq] at hk; omega))
     have HR4:=Lib.hid hr3
     have HLT:=Lib.hid hlt
     unfold zConV at hen ⊢
     unfold ofV at hen ⊢
     clear hlk hlf hr3 hlt hg3
     go_wp2_with fail
     exact ⟨⟨_,cnt3,HR4.out.next ((Below.refl _ _).alloc (Nat.le_refl _) _),HB4.out.alloc (by have:=HB4.out.size; omega) _⟩,by rw [(HR4.out.next ((Below.refl _ _).alloc (Nat.le_refl _) _)).left_eq,HR3.out.left_eq]; exact HLT.out⟩
  ·intro s v w2 cnt2 hlk hlf hr2 hlt hg2 hs2 hen
   obtain ⟨dn,i,cc,rfl,hci,hp⟩:=HCOV.out s v hlk
   have HB2 : Hid (Below w.heap.size w w2):=Lib.hid (HB.out.grown hg2 HB.out.size (fun k hk => by simp only [Option.some.injEq] at hk; omega))
   have HK2 : Hid (Blk w2 w.heap.size #[.map (some b),.map (some c),.map (some x)] 63):=Lib.hid ((hg2.block _ HK.out.lt (by simpa using hrne)).trans HK.out)
   have HR2:=Lib.hid hr2
   have HLT:=Lib.hid hlt
   have HC:=Lib.hid (fun (W : World) (hp : cc.ty.In W.heap.size W) => plain_any cc.ty W hp)
   have HT:=Lib.hid hci.2
   have HLK:=Lib.hid hlk
   unfold madeV ofV at hen ⊢
   unfold Ty.val at HC
   replace hp : pl s = (!cc.has || cc.ty.plain):=hp
   generalize cc.ty.plain = pb at HC hp
   generalize hcc : cc.has = hb at hp hen ⊢
   clear hci hlk hlf hr2 hlt hg2 hcc
   cases hb
   ·have HNEXT:=Lib.hid (left_step HL.out (x:=s) (by rw [hp]; rfl))
    clear hp
    go_wp2_with fail
    exact ⟨⟨_,cnt2,HR2.out.next ((Below.refl _ _).alloc (Nat.le_refl _) _),HB2.out.alloc (by have:=HB2.out.size; omega) _,HK2.out.alloc _,HNEXT.out⟩,by rw [(HR2.out.next ((Below.refl _ _).alloc (Nat.le_refl _) _)).left_eq,HR.out.left_eq]; exact HLT.out⟩
   ·have HB3:=Lib.hid (HB2.out.alloc (by have:=HB2.out.size; omega) (.cells #[.string dn,.int .i64 i,.string cc.name,.bool true,.string cc.ty.dof,.string cc.ty.name,.slice cc.ty.at_ cc.ty.args.length cc.ty.cap] 119))
    have HK3:=Lib.hid (HK2.out.alloc (.cells #[.string dn,.int .i64 i,.string cc.name,.bool true,.string cc.ty.dof,.string cc.ty.name,.slice cc.ty.at_ cc.ty.args.length cc.ty.cap] 119))
    have HR3:=Lib.hid (HR2.out.next ((Below.refl _ _).alloc (Nat.le_refl _) (.cells #[.string dn,.int .i64 i,.string cc.name,.bool true,.string cc.ty.dof,.string cc.ty.name,.slice cc.ty.at_ cc.ty.args.length cc.ty.cap] 119)))
    cases pb
    ·have HP:=Lib.hid hp
     clear hp
     go_wp2_with fail
     refine Calls.mono (HC.out _ (HT.out.at_ HB3.out HB3.out.size)) ?_
     rintro e w4 ⟨rfl,hb4⟩
     have HB4:=Lib.hid (HB3.out.trans (hb4.mono HB3.out.size))
     clear hb4
     go_wp2_with fail
     go_ret
     exact ⟨HB4.out,.inr ⟨rfl,s,_,HLK.out,by rw [HP.out]; rfl⟩⟩
    ·have HNEXT:=Lib.hid (left_step HL.out (x:=s) (by rw [hp]; rfl))
     clear hp
     go_wp2_with fail
     refine Calls.mono (HC.out _ (HT.out.at_ HB3.out HB3.out.size)) ?_
     rintro e w4 ⟨rfl,hb4⟩
     have HB4:=Lib.hid (HB3.out.trans (hb4.mono HB3.out.size))
     have HK4:=Lib.hid (HK3.out.below hb4 HK3.out.lt)
     have HR4:=Lib.hid (HR3.out.next hb4)
     clear hb4
     go_wp2_with fail
     exact ⟨⟨_,cnt2,HR4.out,HB4.out,HK4.out,HNEXT.out⟩,by rw [HR4.out.left_eq,HR.out.left_eq]; exact HLT.out⟩
end Go.Proofs.YtjeggkfgdhepaaaGreatDoor

namespace Go.Proofs.YtjeggkfgdhepaaaGreatDoor
open Go.RowKit
open Go.Proofs
open Go.Maps
theorem lookL_map {τ : Type} (nm : τ → ByteArray) (en : τ → Value) (s : ByteArray) : ∀ T : List τ,lookL (T.map fun x => (nm x,en x)) s = (T.find? fun x => (nm x).toList == s.toList).map en
 | [] => rfl
 | x :: T => by
  have ih:=lookL_map nm en s T
  unfold lookL at ih ⊢
  rw [List.map_cons]
  by_cases h : ((nm x).toList == s.toList) = true
  ·rw [List.find?_cons_of_pos (by exact h),List.find?_cons_of_pos (by exact h)]; rfl
  ·rw [List.find?_cons_of_neg (by exact h),List.find?_cons_of_neg (by exact h)]; exact ih
theorem lookL_isSome {α : Type} (L : List (ByteArray × α)) (s : ByteArray) : (lookL L s).isSome = true ↔ ∃ p ∈ L,p.1.toList = s.toList:=by
 unfold lookL
 rw [Option.isSome_map,List.find?_isSome]
 simp
theorem keysN_le {α : Type} : ∀ L : List (ByteArray × α),keysN L ≤ L.length
 | [] => Nat.le_refl _
 | p :: L => by
  have:=keysN_le L
  unfold keysN
  split <;> simp <;> omega
theorem keysN_full {α : Type} : ∀ L : List (ByteArray × α),keysN L = L.length ↔ L.Pairwise (fun a b => a.1.toList ≠ b.1.toList)
 | [] => by simp [keysN]
 | p :: L => by
  have ih:=keysN_full L
  have hle:=keysN_le L
  rw [List.pairwise_cons]
  unfold keysN
  split
  ·rename_i h
   rw [lookL_isSome] at h
   obtain ⟨q,hq,he⟩:=h
   constructor
   ·intro h; simp at h; omega
   ·intro h; exact absurd he.symm (h.1 q hq)
  ·rename_i h
   rw [lookL_isSome] at h
   constructor
   ·intro hh
    simp only [List.length_cons,Nat.add_right_cancel_iff] at hh
    exact ⟨fun q hq e => h ⟨q,hq,e.symm⟩,ih.1 hh⟩
   ·intro hh
    simp only [List.length_cons,Nat.add_right_cancel_iff]
    exact ih.2 hh.2
abbrev Tag:=ByteArray × Nat × Cn
def Tag.con (x : Tag) : Cn:=x.2.2
def Tag.val (x : Tag) : Value:=madeV x.1 x.2.1 x.2.2
def tagTo (dn : ByteArray) : List Cn → Nat → List Tag
 | _,0 => []
 | cs,j + 1 => match cs[j]? with | some c => (dn,j,c) :: tagTo dn cs j | none => tagTo dn cs j
def tags (l : List Dt) (k : Nat) : List Tag:=(l.take k).reverse.flatMap fun d => tagTo d.name d.cons d.cons.length
def allCons (l : List Dt) : List Cn:=l.flatMap Dt.cons
theorem cTo_tags (dn : ByteArray) (cs : List Cn) : ∀ j,cTo dn cs j = (tagTo dn cs j).map fun x => (x.con.name,x.val)
 | 0 => by simp [cTo,tagTo]
 | j + 1 => by
  rw [cTo,tagTo]
  cases h : cs[j]? with
  | none => exact cTo_tags dn cs j
  | some c => simp only [List.map_cons,cTo_tags dn cs j]; rfl
theorem lTo_tags (l : List Dt) (k : Nat) : lTo l k = (tags l k).map fun x => (x.con.name,x.val):=by
 unfold lTo tags
 rw [List.map_flatMap]
 congr 1
 funext d
 exact cTo_tags _ _ _
theorem tagTo_cons (dn : ByteArray) (cs : List Cn) : ∀ j,(tagTo dn cs j).map Tag.con = (cs.take j).reverse
 | 0 => by simp [tagTo]
 | j + 1 => by
  rw [tagTo,List.take_add_one]
  cases h : cs[j]? with
  | none => simpa using tagTo_cons dn cs j
  | some c => simp [tagTo_cons dn cs j,Tag.con]
theorem tags_cons (l : List Dt) : (tags l l.length).map Tag.con = (allCons l).reverse:=by
 unfold tags allCons
 rw [List.take_length,List.map_flatMap]
 induction l with
 | nil => rfl
 | cons d l ih =>
  rw [List.reverse_cons,List.flatMap_append,ih,List.flatMap_cons (xs:=l),List.reverse_append]
  simp only [List.flatMap_cons,List.flatMap_nil,List.append_nil,tagTo_cons,List.take_length]
theorem tags_mem {l : List Dt} {x : Tag} (h : x ∈ tags l l.length) : x.con ∈ allCons l:=by
 have:=List.mem_map_of_mem (f:=Tag.con) h
 rw [tags_cons] at this
 simpa using this
theorem mem_tags {l : List Dt} {c : Cn} (h : c ∈ allCons l) : ∃ x ∈ tags l l.length,x.con = c:=by
 have : c ∈ (tags l l.length).map Tag.con:=by rw [tags_cons]; simpa using h
 simpa using this
theorem allCons_mem {l : List Dt} {c : Cn} (h : c ∈ allCons l) : ∃ d ∈ l,c ∈ d.cons:=by
 unfold allCons at h
 simpa using h
def plOf (f : Cn → Bool) (l : List Dt) (s : ByteArray) : Bool:=match (tags l l.length).find? (fun x => x.con.name.toList == s.toList) with | some x => !x.con.has || f x.con | none => true
theorem cov_of (f : Cn → Bool) (l : List Dt) (w : World) (h : ∀ d ∈ l,d.In w.heap.size w) : Cov (lTo l l.length) w f (plOf f l):=by
 intro s v hv
 rw [lTo_tags,lookL_map] at hv
 obtain ⟨x,hx,rfl⟩:=Option.map_eq_some_iff.1 hv
 have hm:=tags_mem (List.mem_of_find?_eq_some hx)
 obtain ⟨d,hd,hc⟩:=allCons_mem hm
 refine ⟨x.1,x.2.1,x.2.2,rfl,(h d hd).2.2.2.2 _ hc, ?_⟩
 unfold plOf
 rw [hx]
 rfl
theorem distinct_tags {l : List Dt} (h : keysN (lTo l l.length) = (lTo l l.length).length) : (tags l l.length).Pairwise (fun a b => a.con.name.toList ≠ b.con.name.toList):=by
 rw [keysN_full,lTo_tags,List.pairwise_map] at h
 exact h
theorem find_self {T : List Tag} (h : T.Pairwise (fun a b => a.con.name.toList ≠ b.con.name.toList)) {x : Tag} (hx : x ∈ T) : T.find? (fun y => y.con.name.toList == x.con.name.toList) = some x:=by
 induction T with
 | nil => cases hx
 | cons y T ih =>
  rw [List.pairwise_cons] at h
  rcases List.mem_cons.1 hx with rfl | hx'
  ·rw [List.find?_cons_of_pos (by simp)]
  ·rw [List.find?_cons_of_neg (by simpa using h.1 x hx')]
   exact ih h.2 hx'
theorem all_of_look {f : Cn → Bool} {l : List Dt} (hd : keysN (lTo l l.length) = (lTo l l.length).length) (h : ∀ s v,lookL (lTo l l.length) s = some v → plOf f l s = true) : (allCons l).all (fun c => !c.has || f c) = true:=by
 rw [List.all_eq_true]
 intro c hc
 obtain ⟨x,hx,rfl⟩:=mem_tags hc
 have hf:=find_self (distinct_tags hd) hx
 have:=h x.con.name x.val (by rw [lTo_tags,lookL_map,hf]; rfl)
 unfold plOf at this
 rw [hf] at this
 exact this
theorem not_of_look {f : Cn → Bool} {l : List Dt} (h : ∃ s v,lookL (lTo l l.length) s = some v ∧ plOf f l s = false) : (allCons l).all (fun c => !c.has || f c) = false:=by
 obtain ⟨s,v,hv,hp⟩:=h
 rw [lTo_tags,lookL_map] at hv
 obtain ⟨x,hx,rfl⟩:=Option.map_eq_some_iff.1 hv
 unfold plOf at hp
 rw [hx] at hp
 rw [List.all_eq_false]
 exact ⟨x.con,tags_mem (List.mem_of_find?_eq_some hx),by rw [show (!x.con.has || f x.con) = false from hp]; simp⟩
theorem covE_four : CovE (eTo 4):=by
 intro s v hv
 unfold lookL at hv
 obtain ⟨p,hp,rfl⟩:=Option.map_eq_some_iff.1 hv
 have hm:=List.mem_of_find?_eq_some hp
 simp only [eTo,List.mem_cons,List.not_mem_nil,or_false] at hm
 rcases hm with rfl | rfl | rfl | rfl <;> exact ⟨_,rfl⟩
theorem dTo_shape (l : List Dt) (k : Nat) : ∀ s v,lookL (dTo l k) s = some v → ∃ p q m k,v = .agg #[.string p,.slice q m k]:=by
 intro s v hv
 unfold dTo at hv
 rw [lookL_map] at hv
 obtain ⟨d,-,rfl⟩:=Option.map_eq_some_iff.1 hv
 exact ⟨_,_,_,_,rfl⟩
theorem dTo_in (l : List Dt) (s : ByteArray) : inL (dTo l l.length) s = l.any (fun d => d.name.toList == s.toList):=by
 unfold inL
 rw [Bool.eq_iff_iff,lookL_isSome,List.any_eq_true]
 unfold dTo
 rw [List.take_length]
 constructor
 ·rintro ⟨p,hp,he⟩
  rw [List.mem_map] at hp
  obtain ⟨d,hd,rfl⟩:=hp
  exact ⟨d,by simpa using hd,by simpa using he⟩
 ·rintro ⟨d,hd,he⟩
  exact ⟨(d.name,d.val),List.mem_map.2 ⟨d,by simpa using hd,rfl⟩,by simpa using he⟩
def worldB (l : List Dt) : Bool:=
 l.all Dt.okB && (keysN (dTo l l.length) == l.length && (keysN (lTo l l.length) == consN l l.length && ((allCons l).all (fun c => !c.has || c.ty.plain) && (allCons l).all (fun c => !c.has || c.ty.there (dTo l l.length)))))
end Go.Proofs.YtjeggkfgdhepaaaGreatDoor

namespace Go.Proofs.YtjeggkfgdhepaaaGreatDoor
open Go.RowKit
open Go.Proofs
open Go.Maps
theorem map_len_g {α : Type} {enc : α → Value} {ops : Array Oper} {rest : List Oper} {o : Oper} {a : Act} {Q : Exit → Act → World → Prop} {w : World} {b n : Nat} {L : List (ByteArray × α)} (hw : Region.wanted o (yielded ops a.tmps) = true) (m : Operand) (t e : TypeId) (hop : o.op = Op.call { callee:=Callee.builtin Builtin.len,args:=#[m],argTypes:=#[t] }) (ht : Tryz.prog.underlying t = some (.map 9 e)) (hm : a.eval m = .map (some b)) (h : MapAt enc w b n L)
  (hK : wpList Tryz.prog ops Q rest (a.put o.dst (.int .i64 (keysN L))) w) : wpList Tryz.prog ops Q (o :: rest) a w:=by
 obtain ⟨D,hown,hnm⟩:=h
 refine wpList_step fun K' hK' => ?_
 rw [if_pos hw]
 unfold Oper.wp
 simp [execOp,hop,resolve,invoke,builtin,hm,hown.len ht o.type,Result.andThen]
 exact hK' _ _ (by rw [hnm.size]; exact hK)
theorem natbeq (a b : Nat) : (a == b) = ((a : Int) == (b : Int)):=by
 rw [Bool.eq_iff_iff]
 simp [Int.ofNat_inj]
structure WWAt (l : List Dt) (w : World) (b4 bD bC bE : Nat) (wr : World) : Prop where
 bel : Below w.heap.size w wr
 res : Blk wr w.heap.size #[.map none,.map none,.map none] 63
 cell : Blk wr b4 #[.map (some bD),.map (some bC),.map (some bE)] 63
 ne : w.heap.size ≠ bD ∧ w.heap.size ≠ bC ∧ w.heap.size ≠ bE
 m1 : MapAt ofV wr bD l.length (dTo l l.length)
 m2 : MapAt ofV wr bC (consN l l.length) (lTo l l.length)
 m3 : MapAt ofV wr bE 4 (eTo 4)
section
variable {l : List Dt} {w wr w' : World} {b4 bD bC bE : Nat}
theorem WWAt.next (h : WWAt l w b4 bD bC bE wr) (hb : Below wr.heap.size wr w') : WWAt l w b4 bD bC bE w':=
 ⟨h.bel.trans (hb.mono h.bel.size),h.res.below hb h.res.lt,h.cell.below hb h.cell.lt,h.ne,h.m1.next hb,h.m2.next hb,h.m3.next hb⟩
theorem WWAt.alloc (h : WWAt l w b4 bD bC bE wr) (o : Obj) : WWAt l w b4 bD bC bE (wr.alloc o):=h.next ((Below.refl _ _).alloc (Nat.le_refl _) _)
def WorldPost (l : List Dt) (w : World) (e : Ending) (w' : World) : Prop:=
 ∃ bD bC bE,e = .returned (.tuple #[wVal bD bC bE,.bool (worldB l)]) ∧ Below w.heap.size w w' ∧ MapAt ofV w' bD l.length (dTo l l.length) ∧ MapAt ofV w' bC (consN l l.length) (lTo l l.length) ∧ MapAt ofV w' bE 4 (eTo 4)
theorem WWAt.stored (h : WWAt l w b4 bD bC bE wr) : ∀ w3,w3 = ((wr.setCell ⟨w.heap.size,0,none⟩ (.map (some bD))).setCell ⟨w.heap.size,1,none⟩ (.map (some bC))).setCell ⟨w.heap.size,2,none⟩ (.map (some bE)) →
  Below w.heap.size w w3 ∧ (w3.cell? ⟨w.heap.size,0,none⟩ = some (.map (some bD)) ∧ w3.cell? ⟨w.heap.size,1,none⟩ = some (.map (some bC)) ∧ w3.cell? ⟨w.heap.size,2,none⟩ = some (.map (some bE))) ∧
   MapAt ofV w3 bD l.length (dTo l l.length) ∧ MapAt ofV w3 bC (consN l l.length) (lTo l l.length) ∧ MapAt ofV w3 bE 4 (eTo 4):=by
 rintro w3 rfl
 have hres:=((h.res.set 0 (.map (some bD))).set 1 (.map (some bC))).set 2 (.map (some bE))
 have hm : ∀ b n L,MapAt ofV wr b n L → w.heap.size ≠ b → MapAt ofV (((wr.setCell ⟨w.heap.size,0,none⟩ (.map (some bD))).setCell ⟨w.heap.size,1,none⟩ (.map (some bC))).setCell ⟨w.heap.size,2,none⟩ (.map (some bE))) b n L:=fun b n L h hne => h.block (by rw [Below.heap_setCell _ _ _ _ hne.symm,Below.heap_setCell _ _ _ _ hne.symm,Below.heap_setCell _ _ _ _ hne.symm])
 exact ⟨((h.bel.setCell (by simp) _).setCell (by simp) _).setCell (by simp) _,⟨hres.cell 0,hres.cell 1,hres.cell 2⟩,hm _ _ _ h.m1 h.ne.1,hm _ _ _ h.m2 h.ne.2.1,hm _ _ _ h.m3 h.ne.2.2⟩
end
def BoxD (b : Nat) (d : Dt) (W : World) : Prop:=W.cell? ⟨b,0,none⟩ = some (.string d.name) ∧ W.cell? ⟨b,1,none⟩ = some (.slice d.at_ d.cons.length d.cap) ∧ b < W.heap.size
set_option maxRecDepth 100000 in
set_option maxHeartbeats 4000000 in
theorem world_any (A : Option Addr) (l : List Dt) (c : Nat) (w : World) (h : Env w) (hrow : RowAt w.heap.size w 2 A (l.map Dt.cells)) (hall : ∀ d ∈ l,d.In w.heap.size w) (hl : l.length ≤ 1048576) (hn : consN l l.length ≤ 1048576) :
  Calls Tryz.prog 34 #[.slice A l.length c] w (WorldPost l w):=by
 have HE:=Lib.hid h
 have HR:=Lib.hid hrow
 have HA:=Lib.hid hall
 have HN:=Lib.hid hn
 have HB0:=Lib.hid ((Below.refl w.heap.size w).alloc (Nat.le_refl _) (.cells #[.map none,.map none,.map none] 63))
 have HRES:=Lib.hid (Blk.new w #[.map none,.map none,.map none] 63)
 have HNW:=Lib.hid (newWorld_any A l c (w.alloc (.cells #[.map none,.map none,.map none] 63)) ((hrow.keep HB0.out).wider HB0.out.size) (fun d hd => (hall d hd).at_ HB0.out HB0.out.size) hl hn)
 clear h hrow hall hn
 go_enter Tryz.func34,Tryz.ntmps34
 go_wp2_with fail
 refine Calls.mono HNW.out ?_
 rintro e w1 ⟨bD,bC,bE,rfl,hb1,hm1,hm2,hm3⟩
 have HB1:=Lib.hid (HB0.out.trans (hb1.mono HB0.out.size))
 have hres1 : Blk w1 w.heap.size #[.map none,.map none,.map none] 63:=HRES.out.below hb1 HRES.out.lt
 have hnot : ∀ b n L,MapAt ofV w1 b n L → w.heap.size ≠ b:=by
  rintro b n L ⟨D,⟨es,clock,hh,-⟩,-⟩ rfl
  unfold Blk at hres1
  rw [hres1] at hh
  cases hh
 have HW1 : Hid (WWAt l w w1.heap.size bD bC bE (w1.alloc (.cells #[.map (some bD),.map (some bC),.map (some bE)] 63))):=Lib.hid
  ⟨HB1.out.alloc HB1.out.size _,hres1.alloc _,Blk.new _ _ _,⟨hnot _ _ _ hm1,hnot _ _ _ hm2,hnot _ _ _ hm3⟩,hm1.next ((Below.refl _ _).alloc (Nat.le_refl _) _),hm2.next ((Below.refl _ _).alloc (Nat.le_refl _) _),hm3.next ((Below.refl _ _).alloc (Nat.le_refl _) _)⟩
 clear hb1 hm1 hm2 hm3 hres1 hnot
 unfold wVal
 go_wp2_with fail
 generalize w1.alloc (.cells #[.map (some bD),.map (some bC),.map (some bE)] 63) = wx at HW1 ⊢
 generalize w1.heap.size = b4 at HW1 ⊢
 clear HB1 HNW HB0 HRES
 go_loopw [15,5] (fun iv cv wr => ∃ k : Nat,iv = .int .i64 k ∧ cv = .int .i64 (consN l k) ∧ k ≤ l.length ∧ Hid (WWAt l w b4 bD bC bE wr) ∧ Hid ((l.take k).all Dt.okB = true)) (fun iv _ _ => l.length - (intOf iv).toNat)
 case atStart => exact ⟨0,rfl,by simp [consN],Nat.zero_le _,HW1.out,Lib.hid rfl⟩
 case round =>
  obtain ⟨k,rfl,rfl,hk,HW,HOK⟩:=hrel
  by_cases hlt : k < l.length
  ·obtain ⟨q,b,off,hq,hmem,rfl,hb,x0,x1⟩:=Dt.arg_at HR.out HW.out.bel hlt
   have HQ:=Lib.hid hq
   have HQI:=Lib.hid (HA.out q hmem)
   have hcn:=consN_succ hq
   have hcl:=consN_le l (k + 1)
   have hnn:=HN.out
   have HW2:=Lib.hid (HW.out.alloc (.cells #[.string q.name,.slice q.at_ q.cons.length q.cap] 111))
   have HKD:=Lib.hid (Blk.new wr #[.string q.name,.slice q.at_ q.cons.length q.cap] 111)
   clear hq
   go_wp2_with fail
   clear x0 x1
   generalize wr.alloc (.cells #[.string q.name,.slice q.at_ q.cons.length q.cap] 111) = w2 at HW2 HKD ⊢
   generalize wr.heap.size = bd at HKD ⊢
   have hbox : ∀ W,Below w2.heap.size w2 W → BoxD bd q W:=fun W hW => by
    have hk:=HKD.out.below hW HKD.out.lt
    exact ⟨hk.cell 0,hk.cell 1,hk.lt⟩
   have HBOX:=Lib.hid hbox
   clear hbox
   refine region_reads (BoxD bd q) [1] [0,2,3] 2 (by kernel_rfl) (by kernel_rfl) (HBOX.out _ (Below.refl _ _).drew) ?_
   simp only [picks,picksN,List.filterMap_cons,List.getElem?_cons_zero,List.getElem?_cons_succ,List.filterMap_nil,Option.map_some]
   refine wpHeld_want ?_ (by rfl) (fun W hW => ?_) ?_
   rotate_left
   ·unfold BoxD at hW
    go_simp
    try with_reducible rfl
   simp only [Act.put,List.setIfInBounds_toArray,List.set_cons_zero,List.set_cons_succ]
   refine wpHeld_nil ?_
   refine wpKeepL_step rfl (fun K hK => ?_)
   go_simp
   refine Calls.mono (rule_any _) ?_
   rintro e w3 ⟨rfl,hb3⟩
   have hb3' : Below w2.heap.size w2 w3:=(Below.refl _ _).drew.trans hb3
   have HB3:=Lib.hid hb3'
   clear hb3 hb3'
   refine hK _ _ (fun _ => HBOX.out _ HB3.out) ?_
   clear hK K
   refine wpKeepL_rest _ _ _ (by decide) ?_
   simp only [List.map_cons,List.map_nil]
   have HW3:=Lib.hid (HW2.out.next HB3.out)
   have HC:=Lib.hid (ruleData_any q w3 (HE.out.next HW3.out.bel) (HQI.out.at_ HW3.out.bel HW3.out.bel.size))
   unfold Dt.val at HC
   have hqok:=show q.okB = q.okB from rfl
   generalize hqo : q.okB = qo at HC
   cases qo
   ·go_wp2_with fail
    refine Calls.mono HC.out ?_
    rintro e w4 ⟨rfl,hb4⟩
    have HW4:=Lib.hid (HW3.out.next hb4)
    obtain ⟨y0,y1,y2⟩:=HW4.out.cell.three
    have yl:=HW4.out.cell.lt
    have HNO : Hid (worldB l = false):=Lib.hid (by unfold worldB; rw [all_no HQ.out hqo]; rfl)
    obtain ⟨z0,z1,z2⟩:=HW4.out.res.three
    have zl:=HW4.out.res.lt
    have hf0:=HW4.out.res.free 0
    have hf1:=HW4.out.res.free 1
    have hf2:=HW4.out.res.free 2
    clear hb4
    go_wp2_with fail
    refine NoPanic.normal ?_
    go_wp2_with fail
    obtain ⟨hbel,⟨r0,r1,r2⟩,g1,g2,g3⟩:=HW4.out.stored _ rfl
    generalize ((w4.setCell ⟨w.heap.size,0,none⟩ (.map (some bD))).setCell ⟨w.heap.size,1,none⟩ (.map (some bC))).setCell ⟨w.heap.size,2,none⟩ (.map (some bE)) = w5 at *
    exact bodyPost_ret (v:=.tuple #[wVal bD bC bE,.bool false]) (by unfold wVal; simp [results,Tryz.results34,go_sem,r0,r1,r2]) rfl ⟨bD,bC,bE,by rw [HNO.out],hbel,g1,g2,g3⟩
   ·go_wp2_with fail
    refine Calls.mono HC.out ?_
    rintro e w4 ⟨rfl,hb4⟩
    have HW4:=Lib.hid (HW3.out.next hb4)
    have HOK2:=Lib.hid (all_take_succ HQ.out HOK.out hqo)
    clear hb4
    go_wp2_with fail
    refine NoPanic.normal ?_
    go_wp2_with fail
    refine ⟨⟨k + 1,by go_num,by rw [hcn]; go_num,by omega,HW4.out,HOK2.out⟩,by simp [intOf]; omega⟩
  ·have hk2 : k = l.length:=by omega
   have hok:=HOK.out
   rw [hk2,List.take_length] at hok
   have HOKL:=Lib.hid hok
   have hc0 : consN l k = consN l l.length:=by rw [hk2]
   obtain ⟨y0,y1,y2⟩:=HW.out.cell.three
   have yl:=HW.out.cell.lt
   obtain ⟨z0,z1,z2⟩:=HW.out.res.three
   have zl:=HW.out.res.lt
   have hf0:=HW.out.res.free 0
   have hf1:=HW.out.res.free 1
   have hf2:=HW.out.res.free 2
   clear hk2 hok
   rw [hc0]
   obtain ⟨td,htd⟩ : ∃ t,(((keysN (dTo l l.length) : Nat) : Int) == (l.length : Int)) = t:=⟨_,rfl⟩
   have htd2 : (((keysN (dTo l l.length) : Nat) : Int) != (l.length : Int)) = !td:=by rw [← htd]; rfl
   have htd3 : (keysN (dTo l l.length) == l.length) = td:=(natbeq _ _).trans htd
   have HTD:=Lib.hid htd3
   clear htd3
   obtain ⟨tc,htc⟩ : ∃ t,(((keysN (lTo l l.length) : Nat) : Int) == ((consN l l.length : Nat) : Int)) = t:=⟨_,rfl⟩
   have htc2 : (((keysN (lTo l l.length) : Nat) : Int) != ((consN l l.length : Nat) : Int)) = !tc:=by rw [← htc]; rfl
   have htc3 : (keysN (lTo l l.length) == consN l l.length) = tc:=(natbeq _ _).trans htc
   have HTC:=Lib.hid htc3
   have HP:=Lib.hid (plainW_any bD bC bE (consN l l.length) 4 (lTo l l.length) (eTo 4) (plOf (fun c => c.ty.plain) l) wr HW.out.m2 HW.out.m3 (cov_of _ l wr fun d hd => (HA.out d hd).at_ HW.out.bel HW.out.bel.size) covE_four)
   unfold wVal at HP
   clear htc3
   cases td
   case false =>
    have HNO : Hid (worldB l = false):=Lib.hid (by unfold worldB; rw [HTD.out,Bool.false_and,Bool.and_false])
    go_wp2_with (first | (at_len; refine map_len rfl _ 59 111 rfl Tryz.underlying59 rfl HW.out.m1 ?_) | (at_len; refine map_len_g (by rfl) _ 60 119 rfl Tryz.underlying60 rfl HW.out.m2 ?_) | fail)
    obtain ⟨hbel,⟨r0,r1,r2⟩,g1,g2,g3⟩:=HW.out.stored _ rfl
    generalize ((wr.setCell ⟨w.heap.size,0,none⟩ (.map (some bD))).setCell ⟨w.heap.size,1,none⟩ (.map (some bC))).setCell ⟨w.heap.size,2,none⟩ (.map (some bE)) = w5 at *
    exact bodyPost_ret (v:=.tuple #[wVal bD bC bE,.bool false]) (by unfold wVal; simp [results,Tryz.results34,go_sem,r0,r1,r2]) rfl ⟨bD,bC,bE,by rw [HNO.out],hbel,g1,g2,g3⟩
   cases tc
   case false =>
    have HNO : Hid (worldB l = false):=Lib.hid (by unfold worldB; rw [HTC.out,Bool.false_and,Bool.and_false,Bool.and_false])
    go_wp2_with (first | (at_len; refine map_len rfl _ 59 111 rfl Tryz.underlying59 rfl HW.out.m1 ?_) | (at_len; refine map_len_g (by rfl) _ 60 119 rfl Tryz.underlying60 rfl HW.out.m2 ?_) | fail)
    obtain ⟨hbel,⟨r0,r1,r2⟩,g1,g2,g3⟩:=HW.out.stored _ rfl
    generalize ((wr.setCell ⟨w.heap.size,0,none⟩ (.map (some bD))).setCell ⟨w.heap.size,1,none⟩ (.map (some bC))).setCell ⟨w.heap.size,2,none⟩ (.map (some bE)) = w5 at *
    exact bodyPost_ret (v:=.tuple #[wVal bD bC bE,.bool false]) (by unfold wVal; simp [results,Tryz.results34,go_sem,r0,r1,r2]) rfl ⟨bD,bC,bE,by rw [HNO.out],hbel,g1,g2,g3⟩
   have HDIS : Hid (keysN (lTo l l.length) = (lTo l l.length).length):=Lib.hid (by rw [lTo_len (Nat.le_refl _)]; simpa using HTC.out)
   go_wp2_with (first | (at_len; refine map_len rfl _ 59 111 rfl Tryz.underlying59 rfl HW.out.m1 ?_) | (at_len; refine map_len_g (by rfl) _ 60 119 rfl Tryz.underlying60 rfl HW.out.m2 ?_) | fail)
   refine Calls.mono HP.out ?_
   rintro e w2 ⟨hb2,⟨rfl,hyes⟩ | ⟨rfl,hno⟩⟩
   ·have HW2:=Lib.hid (HW.out.next hb2)
    have HYES:=Lib.hid (all_of_look HDIS.out hyes)
    clear hb2 hyes y0 y1 y2 yl z0 z1 z2 zl hf0 hf1 hf2
    obtain ⟨y0,y1,y2⟩:=HW2.out.cell.three
    have yl:=HW2.out.cell.lt
    obtain ⟨z0,z1,z2⟩:=HW2.out.res.three
    have zl:=HW2.out.res.lt
    have hf0:=HW2.out.res.free 0
    have hf1:=HW2.out.res.free 1
    have hf2:=HW2.out.res.free 2
    go_wp2_with (at_range; go_must (refine map_range rfl _ 60 119 rfl Tryz.underlying60 rfl HW2.out.m2 ?_))
    intro w3 left3 cnt3 hr3 hl3 hg3 hs3
    have HR3:=Lib.hid hr3
    have HL3 : Hid (∀ s v,lookL (lTo l l.length) s = some v → left3 (keyL s) = false → plOf (fun c => c.ty.there (dTo l l.length)) l s = true):=Lib.hid fun s v h1 h2 => by rw [hl3,h1] at h2; cases h2
    have HW3:=Lib.hid (HW2.out.next ((Below.refl _ _).grown hg3 (Nat.le_refl _) (fun k hk => by cases hk)))
    clear hr3 hl3 hg3 hs3 y0 y1 y2 yl z0 z1 z2 zl hf0 hf1 hf2
    go_wp2_with fail
    have hrge : w.heap.size ≤ w2.heap.size:=HW2.out.bel.size
    have hres : w2.heap.size ≠ w.heap.size:=by have:=HW2.out.res.lt; omega
    have hcell : w2.heap.size ≠ b4:=by have:=HW2.out.cell.lt; omega
    have hm1 : w2.heap.size ≠ bD:=by have:=HW2.out.m1.lt; omega
    have hm2 : w2.heap.size ≠ bC:=by have:=HW2.out.m2.lt; omega
    have hm3 : w2.heap.size ≠ bE:=by have:=HW2.out.m3.lt; omega
    generalize w2.heap.size = r at HR3 hrge hres hcell hm1 hm2 hm3 ⊢
    go_loopw [52] (fun _ wr => ∃ left cnt,Hid (RangeAt ofV wr bC r (consN l l.length) (lTo l l.length) left cnt) ∧ Hid (WWAt l w b4 bD bC bE wr) ∧ Hid (∀ s v,lookL (lTo l l.length) s = some v → left (keyL s) = false → plOf (fun c => c.ty.there (dTo l l.length)) l s = true)) (fun _ wr => wr.rangeLeft bC r)
    case atStart => exact ⟨left3,cnt3,HR3.out,HW3.out,HL3.out⟩
    case round =>
     obtain ⟨left,cnt,HR4,HW4,HL⟩:=hrel
     have hgw : ∀ w',wr.grownBy w' (some r) → WWAt l w b4 bD bC bE w':=fun w' hg =>
      ⟨HW4.out.bel.grown hg HW4.out.bel.size (fun k hk => by simp only [Option.some.injEq] at hk; omega),(hg.block _ HW4.out.res.lt (by simpa using Ne.symm hres)).trans HW4.out.res,(hg.block _ HW4.out.cell.lt (by simpa using Ne.symm hcell)).trans HW4.out.cell,HW4.out.ne,
       HW4.out.m1.block (hg.block _ HW4.out.m1.lt (by simpa using Ne.symm hm1)),HW4.out.m2.block (hg.block _ HW4.out.m2.lt (by simpa using Ne.symm hm2)),HW4.out.m3.block (hg.block _ HW4.out.m3.lt (by simpa using Ne.symm hm3))⟩
     have HGW:=Lib.hid hgw
     clear hgw
     go_wp2_with (at_next; go_must (refine map_next rfl _ rfl r left cnt rfl HR4.out ofV_inj ?_ ?_))
     ·intro hdone
      have hall2:=all_of_look (f:=fun c => c.ty.there (dTo l l.length)) HDIS.out (fun s v h => HL.out s v h (hdone _))
      have HYES2 : Hid (worldB l = true):=Lib.hid (by unfold worldB; rw [HOKL.out,HTD.out,HTC.out,HYES.out,hall2]; rfl)
      clear hdone hall2
      obtain ⟨y0,y1,y2⟩:=HW4.out.cell.three
      have yl:=HW4.out.cell.lt
      obtain ⟨z0,z1,z2⟩:=HW4.out.res.three
      have zl:=HW4.out.res.lt
      have hf0:=HW4.out.res.free 0
      have hf1:=HW4.out.res.free 1
      have hf2:=HW4.out.res.free 2
      go_wp2_with fail
      obtain ⟨hbel,⟨r0,r1,r2⟩,g1,g2,g3⟩:=HW4.out.stored _ rfl
      generalize ((wr.setCell ⟨w.heap.size,0,none⟩ (.map (some bD))).setCell ⟨w.heap.size,1,none⟩ (.map (some bC))).setCell ⟨w.heap.size,2,none⟩ (.map (some bE)) = w5 at *
      exact bodyPost_ret (v:=.tuple #[wVal bD bC bE,.bool true]) (by unfold wVal; simp [results,Tryz.results34,go_sem,r0,r1,r2]) rfl ⟨bD,bC,bE,by rw [HYES2.out],hbel,g1,g2,g3⟩
     ·intro s v w5 cnt5 hlk hlf hr5 hlt5 hg5 hs5 hen
      have hcv:=cov_of (fun c => c.ty.there (dTo l l.length)) l w HA.out
      obtain ⟨dn,i,cc,rfl,hci,hp⟩:=hcv s v hlk
      replace hp : plOf (fun c => c.ty.there (dTo l l.length)) l s = (!cc.has || cc.ty.there (dTo l l.length)):=hp
      have HW5:=Lib.hid (HGW.out w5 hg5)
      have hti:=hci.2.at_ HW5.out.bel HW5.out.bel.size
      have HR5:=Lib.hid hr5
      have HLT:=Lib.hid hlt5
      have HC:=Lib.hid (fun (W : World) (he : Env W) (hp : cc.ty.In W.heap.size W) (hm : MapAt ofV W bD l.length (dTo l l.length)) => there_any bD bC bE l.length (dTo l l.length) (dTo_shape l l.length) cc.ty W he hp hm)
      have HT:=Lib.hid hti
      have HLK : Hid (∃ v,lookL (lTo l l.length) s = some v):=Lib.hid ⟨_,hlk⟩
      unfold madeV ofV at hen ⊢
      unfold Ty.val wVal at HC
      generalize cc.ty.there (dTo l l.length) = pb at HC hp
      generalize hcc : cc.has = hb at hp hen ⊢
      clear hci hlk hlf hr5 hlt5 hg5 hs5 hcc hcv hti
      cases hb
      ·have HNEXT:=Lib.hid (left_step HL.out (x:=s) (by rw [hp]; rfl))
       clear hp
       obtain ⟨y0,y1,y2⟩:=HW5.out.cell.three
       have yl:=HW5.out.cell.lt
       obtain ⟨z0,z1,z2⟩:=HW5.out.res.three
       have zl:=HW5.out.res.lt
       have hf0:=HW5.out.res.free 0
       have hf1:=HW5.out.res.free 1
       have hf2:=HW5.out.res.free 2
       go_wp2_with fail
       exact ⟨⟨_,cnt5,HR5.out.next ((Below.refl _ _).alloc (Nat.le_refl _) _),HW5.out.alloc _,HNEXT.out⟩,by rw [(HR5.out.next ((Below.refl _ _).alloc (Nat.le_refl _) _)).left_eq,HR4.out.left_eq]; exact HLT.out⟩
      ·have HW6:=Lib.hid (HW5.out.alloc (.cells #[.string dn,.int .i64 i,.string cc.name,.bool true,.string cc.ty.dof,.string cc.ty.name,.slice cc.ty.at_ cc.ty.args.length cc.ty.cap] 119))
       have HR6:=Lib.hid (HR5.out.next ((Below.refl _ _).alloc (Nat.le_refl _) (.cells #[.string dn,.int .i64 i,.string cc.name,.bool true,.string cc.ty.dof,.string cc.ty.name,.slice cc.ty.at_ cc.ty.args.length cc.ty.cap] 119)))
       obtain ⟨y0,y1,y2⟩:=HW5.out.cell.three
       have yl:=HW5.out.cell.lt
       obtain ⟨z0,z1,z2⟩:=HW5.out.res.three
       have zl:=HW5.out.res.lt
       have hf0:=HW5.out.res.free 0
       have hf1:=HW5.out.res.free 1
       have hf2:=HW5.out.res.free 2
       cases pb
       ·have HNO : Hid (worldB l = false):=Lib.hid (by
         obtain ⟨v,hv⟩:=HLK.out
         unfold worldB
         rw [not_of_look (f:=fun c => c.ty.there (dTo l l.length)) ⟨s,v,hv,by rw [hp]; rfl⟩]
         simp)
        clear hp
        go_wp2_with fail
        refine Calls.mono (HC.out _ (HE.out.next HW6.out.bel) (HT.out.next ((Below.refl _ _).alloc (Nat.le_refl _) _)) HW6.out.m1) ?_
        rintro e w7 ⟨rfl,hb7⟩
        have HW7:=Lib.hid (HW6.out.next hb7)
        clear y0 y1 y2 yl z0 z1 z2 zl hf0 hf1 hf2 hb7
        obtain ⟨y0,y1,y2⟩:=HW7.out.cell.three
        have yl:=HW7.out.cell.lt
        obtain ⟨z0,z1,z2⟩:=HW7.out.res.three
        have zl:=HW7.out.res.lt
        have hf0:=HW7.out.res.free 0
        have hf1:=HW7.out.res.free 1
        have hf2:=HW7.out.res.free 2
        go_wp2_with fail
        obtain ⟨hbel,⟨r0,r1,r2⟩,g1,g2,g3⟩:=HW7.out.stored _ rfl
        generalize ((w7.setCell ⟨w.heap.size,0,none⟩ (.map (some bD))).setCell ⟨w.heap.size,1,none⟩ (.map (some bC))).setCell ⟨w.heap.size,2,none⟩ (.map (some bE)) = w5 at *
        exact bodyPost_ret (v:=.tuple #[wVal bD bC bE,.bool false]) (by unfold wVal; simp [results,Tryz.results34,go_sem,r0,r1,r2]) rfl ⟨bD,bC,bE,by rw [HNO.out],hbel,g1,g2,g3⟩
       ·have HNEXT:=Lib.hid (left_step HL.out (x:=s) (by rw [hp]; rfl))
        clear hp
        go_wp2_with fail
        refine Calls.mono (HC.out _ (HE.out.next HW6.out.bel) (HT.out.next ((Below.refl _ _).alloc (Nat.le_refl _) _)) HW6.out.m1) ?_
        rintro e w7 ⟨rfl,hb7⟩
        have HW7:=Lib.hid (HW6.out.next hb7)
        have HR7:=Lib.hid (HR6.out.next hb7)
        clear y0 y1 y2 yl z0 z1 z2 zl hf0 hf1 hf2 hb7
        go_wp2_with fail
        exact ⟨⟨_,cnt5,HR7.out,HW7.out,HNEXT.out⟩,by rw [HR7.out.left_eq,HR4.out.left_eq]; exact HLT.out⟩
   ·have HW2:=Lib.hid (HW.out.next hb2)
    have HNO : Hid (worldB l = false):=Lib.hid (by unfold worldB; rw [not_of_look (f:=fun c => c.ty.plain) hno]; simp)
    clear hb2 hno y0 y1 y2 yl z0 z1 z2 zl hf0 hf1 hf2
    obtain ⟨y0,y1,y2⟩:=HW2.out.cell.three
    have yl:=HW2.out.cell.lt
    obtain ⟨z0,z1,z2⟩:=HW2.out.res.three
    have zl:=HW2.out.res.lt
    have hf0:=HW2.out.res.free 0
    have hf1:=HW2.out.res.free 1
    have hf2:=HW2.out.res.free 2
    go_wp2_with fail
    obtain ⟨hbel,⟨r0,r1,r2⟩,g1,g2,g3⟩:=HW2.out.stored _ rfl
    generalize ((w2.setCell ⟨w.heap.size,0,none⟩ (.map (some bD))).setCell ⟨w.heap.size,1,none⟩ (.map (some bC))).setCell ⟨w.heap.size,2,none⟩ (.map (some bE)) = w5 at *
    exact bodyPost_ret (v:=.tuple #[wVal bD bC bE,.bool false]) (by unfold wVal; simp [results,Tryz.results34,go_sem,r0,r1,r2]) rfl ⟨bD,bC,bE,by rw [HNO.out],hbel,g1,g2,g3⟩
end Go.Proofs.YtjeggkfgdhepaaaGreatDoor

namespace Go.Proofs.YtjeggkfgdhepaaaGreatDoor
open Go.RowKit
open Go.Proofs
def ScAt (w : World) (v : Value) : Prop:=v = .pointer none ∨ ∃ b,v = .pointer (some ⟨b,0,none⟩) ∧ b < w.heap.size ∧ w.cell? ⟨b,6,none⟩ = some (.slice none 0 0)
theorem ScAt.next {w w' : World} {v : Value} (h : ScAt w v) (hb : Below w.heap.size w w') : ScAt w' v:=by
 rcases h with h | ⟨b,h1,h2,h3⟩
 ·exact .inl h
 ·exact .inr ⟨b,h1,by have:=hb.size; omega,(hb.cell (p:=⟨b,6,none⟩) h2).trans h3⟩
def WithPost (w : World) (e : Ending) (w' : World) : Prop:=Below w.heap.size w w' ∧ ∃ v,e = .returned v ∧ ScAt w' v
set_option maxHeartbeats 1000000 in
theorem with_any (v : Value) (s : ByteArray) (t : Ty) (w : World) (h : ScAt w v) :
  Calls Tryz.prog 72 #[v,.string s,t.val] w (WithPost w):=by
 unfold Ty.val
 have HB0:=Lib.hid ((Below.refl w.heap.size w).alloc (Nat.le_refl _) (.cells #[.string t.dof,.string t.name,.slice t.at_ t.args.length t.cap] 25))
 rcases h with rfl | ⟨b,rfl,hb,hc⟩
 ·have HB1:=Lib.hid (HB0.out.alloc (by simp) (.cells #[.string s,.string t.dof,.string t.name,.slice t.at_ t.args.length t.cap,.slice none 0 0,.pointer none,.slice none 0 0] 157))
  have HK:=Lib.hid (Blk.new' (w.alloc (.cells #[.string t.dof,.string t.name,.slice t.at_ t.args.length t.cap] 25)) #[.string s,.string t.dof,.string t.name,.slice t.at_ t.args.length t.cap,.slice none 0 0,.pointer none,.slice none 0 0] 157 (w.heap.size + 1) (by simp))
  go_enter Tryz.func72,Tryz.ntmps72
  go_wp2_with fail
  go_ret
  exact ⟨HB1.out,_,rfl,.inr ⟨_,rfl,HK.out.lt,HK.out.cell 6⟩⟩
 ·have HB1:=Lib.hid (HB0.out.alloc (by simp) (.cells #[.string s,.string t.dof,.string t.name,.slice t.at_ t.args.length t.cap,.slice none 0 0,.pointer (some ⟨b,0,none⟩),.slice none 0 0] 157))
  have HK:=Lib.hid (Blk.new' (w.alloc (.cells #[.string t.dof,.string t.name,.slice t.at_ t.args.length t.cap] 25)) #[.string s,.string t.dof,.string t.name,.slice t.at_ t.args.length t.cap,.slice none 0 0,.pointer (some ⟨b,0,none⟩),.slice none 0 0] 157 (w.heap.size + 1) (by simp))
  go_enter Tryz.func72,Tryz.ntmps72
  go_wp2_with fail
  go_ret
  exact ⟨HB1.out,_,rfl,.inr ⟨_,rfl,HK.out.lt,HK.out.cell 6⟩⟩
end Go.Proofs.YtjeggkfgdhepaaaGreatDoor

namespace Go.Proofs.YtjeggkfgdhepaaaGreatDoor
open Go.RowKit
open Go.Proofs
section
variable {P : Program} {ops : Array Oper} {Q : Exit → Act → World → Prop} {md : Region.Mode} {S : World → Prop}
def Region.mixL (md : Region.Mode) (ops : Array Oper) (m : Nat) : List (Nat × Bool) → Array Bool → Bool
 | [],listed => (Region.ready md ops listed).isEmpty
 | (k,b) :: ks,listed =>
  (if b then (Region.ready md ops listed).contains k && Region.free md ops listed k && ((List.range ops.size).all fun j => decide (j < m) || Region.waitsT md ops ops.size j k)
  else decide (Region.ready md ops listed = [k]) && (decide (k < m) || ks.all fun p => !p.2)) && Region.mixL md ops m ks (listed.setIfInBounds k true)
def pickM (l : List Oper) (ks : List (Nat × Bool)) : List (Nat × Bool × Oper):=ks.filterMap fun k => (l[k.1]?).map fun o => (k.1,k.2,o)
def wpMix (P : Program) (ops : Array Oper) (Q : Exit → Act → World → Prop) (S : World → Prop) (m : Nat) : List (Nat × Bool × Oper) → Act → World → Prop
 | [],a,w => Q .normal a w
 | (k,b,o) :: rest,a,w => match b with
  | true => ∃ v,YieldsIf P ops S o v a ∧ wpMix P ops Q S m rest (a.put o.dst v) w
  | false => (fun K : Act → World → Prop => if Region.wanted o (yielded ops a.tmps) then o.wp P a w K Q ∨ (o.asks P a w ∧ LetsOut Q) else K (a.put o.dst undef) w) fun a' w' => (k < m → S w') ∧ wpMix P ops Q S m rest a' w'
theorem wpAnyM_mix {m : Nat} {l : List Oper} (hl : ops = l.toArray) (hs : Region.noSelect ops = true) (hQ : ∀ c a d v w,Q (.panic c) (Act.put a d v) w → Q (.panic c) a w) :
  ∀ (ks : List (Nat × Bool)) (listed : Array Bool) (a : Act) (w : World),Closed md ops listed → ((ks.all fun p => !p.2) = false → S w) → Region.mixL md ops m ks listed = true → wpMix P ops Q S m (pickM l ks) a w → wpAnyM P md ops Q S m ks.length listed a w
 | [],listed,a,w,hc,hS,hB,h => ⟨by simpa [Region.mixL] using hB,h⟩
 | (k,true) :: ks,listed,a,w,hc,hS,hB,h => by
  simp only [Region.mixL,if_true,Bool.and_eq_true] at hB
  obtain ⟨⟨⟨hr,hf⟩,hm⟩,hB'⟩:=hB
  have hr' : k ∈ Region.ready md ops listed:=by simpa using hr
  obtain ⟨-,o,ho,-⟩:=mem_ready.1 hr'
  have hlo : l[k]? = some o:=by rw [hl] at ho; simpa using ho
  have hp : pickM l ((k,true) :: ks) = (k,true,o) :: pickM l ks:=by unfold pickM; rw [List.filterMap_cons,hlo]; rfl
  rw [hp] at h
  obtain ⟨v,hy,hK⟩:=h
  have hSw : S w:=hS (by simp)
  refine wpAnyM_firstT ho (Region.noSelect_spec hs) (fun c a w => hQ c a _ _ w) (fun j hj hjs => ?_) ks.length listed a w hc (Region.free_spec ho hf) hr' hy hSw
   (wpAnyM_mix hl hs hQ ks _ _ w (closed_set hc hr') (fun _ => hSw) hB' hK)
  have h1:=List.all_eq_true.1 hm j (List.mem_range.2 hjs)
  simp only [Bool.or_eq_true,decide_eq_true_eq] at h1
  rcases h1 with h1 | h1
  ·omega
  ·exact h1
 | (k,false) :: ks,listed,a,w,hc,hS,hB,h => by
  simp only [Region.mixL,Bool.false_eq_true,if_false,Bool.and_eq_true,decide_eq_true_eq] at hB
  obtain ⟨⟨hr,hm⟩,hB'⟩:=hB
  have hr' : k ∈ Region.ready md ops listed:=by rw [hr]; simp
  obtain ⟨-,o,ho,-⟩:=mem_ready.1 hr'
  have hlo : l[k]? = some o:=by rw [hl] at ho; simpa using ho
  have hp : pickM l ((k,false) :: ks) = (k,false,o) :: pickM l ks:=by unfold pickM; rw [List.filterMap_cons,hlo]; rfl
  rw [hp] at h
  refine ⟨fun h1 => (by rw [hr] at h1; cases h1),fun i hi => ?_⟩
  rw [hr] at hi
  have hik : i = k:=by simpa using hi
  subst hik
  have hw : wpOp P ops Q i (fun a' w' => (i < m → S w') ∧ wpMix P ops Q S m (pickM l ks) a' w') a w:=by unfold wpOp; simp only [ho]; exact h
  refine wpOp_mono (fun a' w' h' => ⟨h'.1,wpAnyM_mix hl hs hQ ks _ a' w' (closed_set hc hr') (fun hh => ?_) hB' h'.2⟩) hw
  simp only [Bool.or_eq_true,decide_eq_true_eq] at hm
  rcases hm with hm | hm
  ·exact h'.1 hm
  ·rw [hm] at hh; cases hh
theorem region_mix {id : Nat} {a : Act} {w : World} {l : List Oper} (S : World → Prop) (ks : List (Nat × Bool)) (m : Nat) (hmix : P.follows .mixedOrders = true)
  (hB : (Region.noSelect l.toArray && Region.mixL .any l.toArray m ks (Array.replicate l.toArray.size false) && decide (ks.length = l.toArray.size)) = true) (hS : S w.drew)
  (h : wpMix P l.toArray (NoPanic Q) S m (pickM l ks) a w.drew) : (Code.region id l.toArray true).wp P Q a w:=by
 refine wp_region_noPanic ?_
 simp only [Bool.and_eq_true,decide_eq_true_eq] at hB
 obtain ⟨⟨hsel,hhead⟩,hlen⟩:=hB
 have hc : Closed .any l.toArray (Array.replicate l.toArray.size false):=fun j oj hj hlj => by
  have hjl:=(Array.getElem?_eq_some_iff.1 hj).1
  have h0 : (Array.replicate l.toArray.size false).getD j true = false:=by
   unfold Array.getD
   rw [dif_pos (by simpa using hjl)]
   simp
  rw [h0] at hlj
  cases hlj
 have H:=wpAnyM_mix (md:=.any) (Q:=NoPanic Q) (m:=m) (S:=S) rfl hsel (fun _ _ _ _ _ h => h) ks (Array.replicate l.toArray.size false) a w.drew hc (fun _ => hS) hhead h
 rw [hlen] at H
 exact wp_region_any hmix (wpAny_of_M _ _ _ _ H)
theorem wpMix_nil {m : Nat} {a : Act} {w : World} (h : Q .normal a w) : wpMix P ops Q S m [] a w:=h
theorem wpMix_read {m k : Nat} {a : Act} {w : World} {o : Oper} {rest : List (Nat × Bool × Oper)} (v : Value) (hw : Region.wanted o (yielded ops a.tmps) = true) (h : ∀ w,S w → (execOp a.eval o).run P w = .ok (.value v) w)
  (h2 : wpMix P ops Q S m rest (a.put o.dst v) w) : wpMix P ops Q S m ((k,true,o) :: rest) a w:=⟨v,.inl ⟨hw,h⟩,h2⟩
theorem wpMix_step {m k : Nat} {a : Act} {w : World} {o : Oper} {rest : List (Nat × Bool × Oper)} (hg : o.guard = none)
  (h : ∀ K : Act → World → Prop,(∀ a w,(k < m → S w) → wpMix P ops Q S m rest a w → K a w) → o.wp P a w K Q) : wpMix P ops Q S m ((k,false,o) :: rest) a w:=by
 have h1:=h _ (fun a w hS hK => (⟨hS,hK⟩ : (k < m → S w) ∧ wpMix P ops Q S m rest a w))
 unfold wpMix
 simp only [Region.wanted,hg,if_true]
 exact .inl h1
end
end Go.Proofs.YtjeggkfgdhepaaaGreatDoor

namespace Go.Proofs.YtjeggkfgdhepaaaGreatDoor
open Go.RowKit
open Go.Proofs
abbrev Look:=ByteArray → Option (ByteArray × Cn)
def Pt.fit (look : Look) : Pt → Ty → Bool
 | .mk d s _ _ _ l => fun t =>
  let sub:=l.map fun q => Pt.fit look q
  if isDo [97,110,121] d || isDo [118,97,114] d then true
  else if isDo [105,110,116] d || isDo [98,111,111,108] d || isDo [117,110,105,116] d then t.dof.toList == d.toList
  else if isDo [112,97,105,114] d then isDo [112,97,105,114] t.dof && (sub.zipWith (fun f u => f u) t.args).all id
  else if isDo [110,105,108] d then isDo [108,105,115,116] t.dof
  else if isDo [99,111,110,115] d then isDo [108,105,115,116] t.dof && (sub.zipWith (fun f u => f u) (t.args.take 1 ++ [t])).all id
  else match look s with
   | none => false
   | some (dn,c) => isDo [100,97,116,97] t.dof && (t.name.toList == dn.toList && ((c.has == ((l.length : Int) == 1)) && (sub.zipWith (fun f u => f u) ([c.ty].take l.length)).all id))
def fitsL (look : Look) (l : List Pt) (ts : List Ty) : Bool:=((l.map fun q => q.fit look).zipWith (fun f u => f u) ts).all id
theorem Pt.fit_mk (look : Look) (d s : ByteArray) (n : Int) (a : Option Addr) (c : Nat) (l : List Pt) (t : Ty) : (Pt.mk d s n a c l).fit look t =
  if isDo [97,110,121] d || isDo [118,97,114] d then true
  else if isDo [105,110,116] d || isDo [98,111,111,108] d || isDo [117,110,105,116] d then t.dof.toList == d.toList
  else if isDo [112,97,105,114] d then isDo [112,97,105,114] t.dof && fitsL look l t.args
  else if isDo [110,105,108] d then isDo [108,105,115,116] t.dof
  else if isDo [99,111,110,115] d then isDo [108,105,115,116] t.dof && fitsL look l (t.args.take 1 ++ [t])
  else match look s with
   | none => false
   | some (dn,c) => isDo [100,97,116,97] t.dof && (t.name.toList == dn.toList && ((c.has == ((l.length : Int) == 1)) && fitsL look l ([c.ty].take l.length))):=by
 rw [Pt.fit]
 rfl
theorem fitsL_iff (look : Look) (l : List Pt) (ts : List Ty) : fitsL look l ts = true ↔ ∀ (i : Nat) (q : Pt) (u : Ty),l[i]? = some q → ts[i]? = some u → q.fit look u = true:=by
 unfold fitsL
 rw [List.all_eq_true]
 constructor
 ·intro h i q u hq hu
  exact h _ (List.mem_of_getElem? (i:=i) (by rw [List.getElem?_zipWith,List.getElem?_map,hq,hu]; rfl))
 ·intro h x hx
  obtain ⟨i,hi⟩:=List.getElem?_of_mem hx
  rw [List.getElem?_zipWith,List.getElem?_map] at hi
  cases hq : l[i]? with
  | none => rw [hq] at hi; cases hi
  | some q =>
   cases hu : ts[i]? with
   | none => rw [hq,hu] at hi; cases hi
   | some u =>
    rw [hq,hu] at hi
    simp only [Option.map_some,Option.some.injEq] at hi
    rw [← hi]
    exact h i q u hq hu
structure CkAt (w : World) (b bC nC : Nat) (LC : List (ByteArray × Value)) : Prop where
 lt : b < w.heap.size
 cell : w.cell? ⟨b,1,none⟩ = some (.map (some bC))
 map : MapAt ofV w bC nC LC
theorem CkAt.next {w w' : World} {b bC nC : Nat} {LC : List (ByteArray × Value)} (h : CkAt w b bC nC LC) (hb : Below w.heap.size w w') : CkAt w' b bC nC LC:=
 ⟨Nat.lt_of_lt_of_le h.lt hb.size,(hb.cell (p:=⟨b,1,none⟩) h.lt).trans h.cell,h.map.next hb⟩
def LookOk (LC : List (ByteArray × Value)) (look : Look) (w : World) : Prop:=
 (∀ s v,lookL LC s = some v → ∃ dn i c,v = madeV dn i c ∧ c.In w.heap.size w ∧ look s = some (dn,c) ∧ (c.has = true → c.ty.well (kindB .con) = true)) ∧ ∀ s,lookL LC s = none → look s = none
theorem LookOk.next {w w' : World} {LC : List (ByteArray × Value)} {look : Look} (h : LookOk LC look w) (hb : Below w.heap.size w w') : LookOk LC look w':=
 ⟨fun s v hv => by obtain ⟨dn,i,c,h1,h2,h3⟩:=h.1 s v hv; exact ⟨dn,i,c,h1,h2.at_ hb hb.size,h3⟩,h.2⟩
def CPost (w : World) (ok : Bool) (e : Ending) (w' : World) : Prop:=Below w.heap.size w w' ∧ ∃ v,e = .returned (.tuple #[v,.bool ok]) ∧ ScAt w' v
theorem CPost.mk {w w' : World} {ok : Bool} {v : Value} (h1 : Below w.heap.size w w') (h2 : ScAt w' v) : CPost w ok (.returned (.tuple #[v,.bool ok])) w':=⟨h1,v,rfl,h2⟩
def PatC (look : Look) (b bC nC : Nat) (LC : List (ByteArray × Value)) (q : Pt) : Prop:=
 ∀ (t : Ty) (w : World) (v : Value),q.In w.heap.size w → q.wellB = true → t.In w.heap.size w → t.well (kindB .con) = true → CkAt w b bC nC LC → ScAt w v → LookOk LC look w →
  Calls Tryz.prog 37 #[.pointer (some ⟨b,0,none⟩),v,q.val,t.val] w (CPost w (q.fit look t))
def SP (bp b1 off1 : Nat) (q : Pt) (u : Ty) (W : World) : Prop:=
 W.cell? ⟨bp,0,none⟩ = some (.string q.dof) ∧ W.cell? ⟨bp,1,none⟩ = some (.string q.name) ∧ W.cell? ⟨bp,2,none⟩ = some (.int .i64 q.num) ∧ W.cell? ⟨bp,3,none⟩ = some (.slice q.at_ q.args.length q.cap) ∧
 W.cell? ⟨b1,off1,none⟩ = some (.string u.dof) ∧ W.cell? ⟨b1,off1 + 1,none⟩ = some (.string u.name) ∧ W.cell? ⟨b1,off1 + 2,none⟩ = some (.slice u.at_ u.args.length u.cap)
set_option maxRecDepth 100000 in
set_option maxHeartbeats 2000000 in
theorem pats_any (look : Look) (b bC nC : Nat) (LC : List (ByteArray × Value)) (l : List Pt) (A : Option Addr) (c : Nat) (ts : List Ty) (A2 : Option Addr) (c2 : Nat) (hpat : ∀ q ∈ l,PatC look b bC nC LC q ∧ q.wellB = true) (w : World) (v : Value)
  (hl : l.length ≤ 1099511627776) (hts : ts.length ≤ 1099511627776) (hle : l.length ≤ ts.length) (hrow : RowAt w.heap.size w 4 A (l.map Pt.cells)) (hall : ∀ q ∈ l,q.In w.heap.size w) (htrow : RowAt w.heap.size w 3 A2 (ts.map Ty.cells))
  (htall : ∀ t ∈ ts,t.In w.heap.size w ∧ t.well (kindB .con) = true) (hck : CkAt w b bC nC LC) (hsc : ScAt w v) (hlo : LookOk LC look w) :
  Calls Tryz.prog 73 #[.pointer (some ⟨b,0,none⟩),v,.slice A l.length c,.slice A2 ts.length c2] w (CPost w (fitsL look l ts)):=by
 have HP:=Lib.hid hpat
 have HR:=Lib.hid hrow
 have HA:=Lib.hid hall
 have HTR:=Lib.hid htrow
 have HTA:=Lib.hid htall
 have HCK:=Lib.hid hck
 have HSC:=Lib.hid hsc
 have HLO:=Lib.hid hlo
 clear hpat hrow hall htrow htall hck hsc hlo
 go_enter Tryz.func73,Tryz.ntmps73
 go_wp2_with fail
 go_loopw [16,1] (fun iv sv wr => ∃ k : Nat,iv = .int .i64 k ∧ k ≤ l.length ∧ Hid (Below w.heap.size w wr) ∧ Hid (ScAt wr sv) ∧ Hid (∀ (i : Nat) (q : Pt) (u : Ty),i < k → l[i]? = some q → ts[i]? = some u → q.fit look u = true)) (fun iv _ _ => l.length - (intOf iv).toNat)
 case atStart => exact ⟨0,rfl,Nat.zero_le _,Lib.hid (Below.refl _ _),HSC.out,Lib.hid fun i q u h => absurd h (Nat.not_lt_zero _)⟩
 case round =>
  obtain ⟨k,rfl,hk,HB,HS,HF⟩:=hrel
  by_cases hlt : k < l.length
  ·obtain ⟨q,b0,off,hq,hmem,rfl,hb,x0,x1,x2,x3⟩:=Pt.arg_at HR.out HB.out hlt
   obtain ⟨u,b1,off1,hu,humem,rfl,hb1,z0,z1,z2⟩:=Ty.arg_at HTR.out HB.out (show k < ts.length by omega)
   have hs0:=HB.out.size
   have HQ:=Lib.hid hq
   have HU:=Lib.hid hu
   have HB0:=Lib.hid ((Below.refl wr.heap.size wr).alloc (Nat.le_refl _) (.cells #[.string q.dof,.string q.name,.int .i64 q.num,.slice q.at_ q.args.length q.cap] 28))
   have HB1:=Lib.hid ((HB.out.trans (HB0.out.mono HB.out.size)).drew)
   have HB2:=Lib.hid (HB0.out.drew)
   have HCALL:=Lib.hid ((HP.out q hmem).1 u _ _ ((HA.out q hmem).at_ HB1.out HB1.out.size) (HP.out q hmem).2 ((HTA.out u humem).1.at_ HB1.out HB1.out.size) (HTA.out u humem).2 (HCK.out.next HB1.out) (HS.out.next HB2.out) (HLO.out.next HB1.out))
   have kl : k < ts.length:=by omega
   generalize hfit : q.fit look u = ok at HCALL
   have HFIT:=Lib.hid hfit
   clear hq hu hfit
   unfold Pt.val Ty.val at HCALL
   have HKP:=Lib.hid (Blk.new wr #[.string q.dof,.string q.name,.int .i64 q.num,.slice q.at_ q.args.length q.cap] 28)
   have hz : ∀ W,Below wr.heap.size wr W → W.cell? ⟨b1,off1 + k * 3,none⟩ = some (.string u.dof) ∧ W.cell? ⟨b1,off1 + k * 3 + 1,none⟩ = some (.string u.name) ∧ W.cell? ⟨b1,off1 + k * 3 + 2,none⟩ = some (.slice u.at_ u.args.length u.cap):=fun W hW =>
    ⟨(hW.cell (p:=⟨b1,off1 + k * 3,none⟩) (by simp; omega)).trans z0,(hW.cell (p:=⟨b1,off1 + k * 3 + 1,none⟩) (by simp; omega)).trans z1,(hW.cell (p:=⟨b1,off1 + k * 3 + 2,none⟩) (by simp; omega)).trans z2⟩
   have HZ:=Lib.hid (hz _ HB0.out)
   go_wp2_with fail
   clear z0 z1 z2 hz
   generalize wr.alloc (.cells #[.string q.dof,.string q.name,.int .i64 q.num,.slice q.at_ q.args.length q.cap] 28) = wp at HKP HB0 HB1 HB2 HCALL HZ ⊢
   have hsp : ∀ W,Below wp.heap.size wp W → SP wr.heap.size b1 (off1 + k * 3) q u W:=fun W hW => by
    have hk:=HKP.out.below hW HKP.out.lt
    have hbl : b1 < wp.heap.size:=by have:=HB0.out.size; omega
    exact ⟨hk.cell 0,hk.cell 1,hk.cell 2,hk.cell 3,(hW.cell (p:=⟨b1,off1 + k * 3,none⟩) hbl).trans HZ.out.1,(hW.cell (p:=⟨b1,off1 + k * 3 + 1,none⟩) hbl).trans HZ.out.2.1,(hW.cell (p:=⟨b1,off1 + k * 3 + 2,none⟩) hbl).trans HZ.out.2.2⟩
   have HSP:=Lib.hid hsp
   clear hsp x0 x1 x2 x3
   refine region_mix (SP wr.heap.size b1 (off1 + k * 3) q u) [(0,true),(1,true),(2,true),(3,true),(4,true),(5,true),(6,true),(7,false),(8,true),(9,true),(10,true),(11,false),(12,false)] 12 (by kernel_rfl) (by kernel_rfl) (HSP.out _ (Below.refl _ _).drew) ?_
   simp only [pickM,List.filterMap_cons,List.getElem?_cons_zero,List.getElem?_cons_succ,List.filterMap_nil,Option.map_some]
   repeat
    refine wpMix_read ?_ (by rfl) (fun W hW => ?_) ?_
    rotate_left
    ·unfold SP at hW
     go_simp
     try with_reducible rfl
    simp only [Act.put,List.setIfInBounds_toArray,List.set_cons_zero,List.set_cons_succ]
   refine wpMix_step rfl (fun K hK => ?_)
   go_simp
   refine Calls.mono HCALL.out ?_
   rintro e w2 ⟨hb2,v2,rfl,hsc2⟩
   have HB3:=Lib.hid (HB1.out.trans (hb2.mono HB1.out.size))
   have HS3:=Lib.hid hsc2
   have HS4:=Lib.hid ((HS.out.next HB2.out).next hb2)
   have HS5:=Lib.hid (HSP.out w2 ((Below.refl _ _).drew.trans hb2))
   refine hK _ _ (fun _ => HS5.out) ?_
   clear hb2 hsc2 hK K
   repeat
    refine wpMix_read ?_ (by rfl) (fun W hW => ?_) ?_
    rotate_left
    ·unfold SP at hW
     go_simp
     try with_reducible rfl
    simp only [Act.put,List.setIfInBounds_toArray,List.set_cons_zero,List.set_cons_succ]
   iterate 2
    refine wpMix_step rfl (fun K hK => ?_)
    go_simp
    refine hK _ _ (fun _ => HS5.out) ?_
    clear hK K
   refine wpMix_nil ?_
   refine NoPanic.normal ?_
   cases ok
   ·have HNO : Hid (fitsL look l ts = false):=Lib.hid (by
     rw [Bool.eq_false_iff]
     intro h
     have:=(fitsL_iff look l ts).1 h k q u HQ.out HU.out
     rw [HFIT.out] at this
     cases this)
    go_wp2_with fail
    exact bodyPost_ret (by simp [results,Tryz.results73,go_sem,HNO.out]) rfl (CPost.mk HB3.out HS4.out)
   ·have HYES : Hid (∀ (i : Nat) (q : Pt) (u : Ty),i < k + 1 → l[i]? = some q → ts[i]? = some u → q.fit look u = true):=Lib.hid (by
     intro i q' u' hi hq' hu'
     rcases Nat.lt_succ_iff_lt_or_eq.1 hi with hi | rfl
     ·exact HF.out i q' u' hi hq' hu'
     ·rw [HQ.out] at hq'
      rw [HU.out] at hu'
      cases hq'
      cases hu'
      exact HFIT.out)
    go_wp2_with fail
    exact ⟨⟨k + 1,by go_num,by omega,HB3.out,HS3.out,HYES.out⟩,by simp [intOf]; omega⟩
  ·have hk2 : k = l.length:=by omega
   have HYES : Hid (fitsL look l ts = true):=Lib.hid ((fitsL_iff look l ts).2 fun i q u hq hu => HF.out i q u (by rw [hk2]; exact (List.getElem?_eq_some_iff.1 hq).1) hq hu)
   clear hk2
   go_wp2_with fail
   exact bodyPost_ret (by simp [results,Tryz.results73,go_sem,HYES.out]) rfl (CPost.mk HB.out HS.out)
end Go.Proofs.YtjeggkfgdhepaaaGreatDoor
