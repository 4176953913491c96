/- Rows of indexes: has. -/
import Derived.Test.YtjeggkfgdhepaaaGreatDoorG14
set_option linter.unusedVariables false
set_option linter.unusedSimpArgs false
namespace Go.Proofs.YtjeggkfgdhepaaaGreatDoor
open Go.RowKit
open Go.Proofs
def natV (i : Nat) : Value:=.int .i64 (i : Int)
def NatsAt (B : Nat) (w : World) (A : Option Addr) (ns : List Nat) : Prop:=RowAt B w 1 A (ns.map fun i => [natV i])
theorem NatsAt.cell {B : Nat} {w w' : World} {A : Option Addr} {ns : List Nat} {k : Nat} (h : NatsAt B w A ns) (hb : Below B w w') (hk : k < ns.length) : ∃ b o x,A = some ⟨b,o,none⟩ ∧ b < B ∧ ns[k]? = some x ∧ w'.cell? ⟨b,o + k,none⟩ = some (.int .i64 (x : Int)):=by
 obtain ⟨b,o,e,hlt,hc⟩:=h (by simp; omega)
 refine ⟨b,o,ns[k],e,hlt,List.getElem?_eq_getElem hk, ?_⟩
 have:=hc k [natV ns[k]] (by rw [List.getElem?_map,List.getElem?_eq_getElem hk]; rfl) 0 _ rfl
 rw [Nat.mul_one,Nat.add_zero] at this
 exact (hb.cell (p:=⟨b,o + k,none⟩) hlt).trans this
theorem OwnI.nats {B : Nat} {w : World} {v : Value} {ns : List Nat} (h : OwnI B w v (ns.map natV)) : ∃ A c,v = .slice A ns.length c ∧ NatsAt w.heap.size w A ns:=by
 obtain ⟨A,c,rfl,ho⟩:=h
 refine ⟨A,c,by rw [List.length_map], ?_⟩
 have:=row_vals ho
 rw [List.map_map] at this
 exact this
end Go.Proofs.YtjeggkfgdhepaaaGreatDoor

namespace Go.Proofs.YtjeggkfgdhepaaaGreatDoor
open Go.RowKit
open Go.Proofs
set_option maxRecDepth 100000 in
set_option maxHeartbeats 2000000 in
theorem same_ints (ns : List Nat) (A1 : Option Addr) (c1 : Nat) (A2 : Option Addr) (c2 : Nat) (w : World) (h1 : NatsAt w.heap.size w A1 ns) (h2 : NatsAt w.heap.size w A2 ns) (hl : ns.length ≤ 1048576) :
  Calls Tryz.prog 27 #[.slice A1 ns.length c1,.slice A2 ns.length c2] w fun e w' => e = .returned (.bool true) ∧ Below w.heap.size w w':=by
 have H1:=Lib.hid h1
 have H2:=Lib.hid h2
 clear h1 h2
 go_enter Tryz.func27,Tryz.ntmps27
 go_wp2_with fail
 go_loopw [13] (fun iv wr => ∃ k : Nat,iv = .int .i64 k ∧ k ≤ ns.length ∧ Hid (Below w.heap.size w wr)) (fun iv _ => ns.length - (intOf iv).toNat)
 case atStart => exact ⟨0,rfl,Nat.zero_le _,Below.refl _ _⟩
 case round =>
  obtain ⟨k,rfl,hk,HB⟩:=hrel
  by_cases hlt : k < ns.length
  ·obtain ⟨b,o,x,rfl,hb,hx,x0⟩:=H1.out.cell HB.out hlt
   obtain ⟨b',o',x',rfl,hb',hx',z0⟩:=H2.out.cell HB.out hlt
   have he:=hx.symm.trans hx'
   simp only [Option.some.injEq] at he
   subst he
   have hs:=HB.out.size
   clear hx hx'
   go_wp2_with fail
   go_quiet (fail)
   go_wp2_with fail
   exact ⟨⟨k + 1,by go_num,by omega,Lib.hid (below_drewN HB.out _)⟩,by simp [intOf]; omega⟩
  ·have hk2 : k = ns.length:=by omega
   clear hlt
   subst hk2
   go_wp2_with fail
   go_ret
   exact ⟨rfl,HB.out⟩
end Go.Proofs.YtjeggkfgdhepaaaGreatDoor

namespace Go.Proofs.YtjeggkfgdhepaaaGreatDoor
open Go.RowKit
open Go.Proofs
def YesNo (P : Prop) (w : World) (e : Ending) (w' : World) : Prop:=(∃ b,e = .returned (.bool b) ∧ (b = true ↔ P)) ∧ Below w.heap.size w w'
theorem YesNo.no {P : Prop} {w w' : World} (h : ¬P) (hb : Below w.heap.size w w') : YesNo P w (.returned (.bool false)) w':=⟨⟨false,rfl,⟨fun e => (by cases e),fun e => absurd e h⟩⟩,hb⟩
theorem YesNo.yes {P : Prop} {w w' : World} (h : P) (hb : Below w.heap.size w w') : YesNo P w (.returned (.bool true)) w':=⟨⟨true,rfl,⟨fun _ => h,fun _ => rfl⟩⟩,hb⟩
theorem YesNo.is {P : Prop} {w w' : World} {b : Bool} (h : b = true ↔ P) (hb : Below w.heap.size w w') : YesNo P w (.returned (.bool b)) w':=⟨⟨b,rfl,h⟩,hb⟩
def Pt.flatB (p : Pt) : Bool:=p.args.all fun q => wildD q.dof
set_option maxRecDepth 100000 in
set_option maxHeartbeats 2000000 in
theorem rflat_any (p : Pt) (w : World) (h : p.In w.heap.size w) :
  Calls Tryz.prog 99 #[p.val] w fun e w' => e = .returned (.bool p.flatB) ∧ Below w.heap.size w w':=by
 obtain ⟨d,s,n,a,c,ps⟩:=p
 obtain ⟨-,-,-,hpl,hcap,hrow,-⟩:=Pt.In_mk.1 h
 have HROW:=Lib.hid hrow
 have HC:=Lib.hid (fun (q : Pt) (W : World) => rwild_any q W)
 have HB0:=Lib.hid ((Below.refl w.heap.size w).alloc (Nat.le_refl _) (.cells #[.string d,.string s,.int .i64 n,.slice a ps.length c] 28))
 obtain ⟨res,hres⟩ : ∃ r,r = (Pt.mk d s n a c ps).flatB:=⟨_,rfl⟩
 have HRES:=Lib.hid (show res = ps.all (fun q => wildD q.dof) from hres)
 rw [← hres]
 clear hrow hres h
 unfold Pt.val at *
 simp only [Pt.dof,Pt.name,Pt.num,Pt.at_,Pt.cap,Pt.args]
 go_enter Tryz.func99,Tryz.ntmps99
 go_wp2_with fail
 go_loopw [8] (fun iv wr => ∃ k : Nat,iv = .int .i64 k ∧ k ≤ ps.length ∧ Hid (Below w.heap.size w wr) ∧ Hid (∀ (j : Nat) (x : Pt),j < k → ps[j]? = some x → wildD x.dof = true)) (fun iv _ => ps.length - (intOf iv).toNat)
 case atStart => exact ⟨0,rfl,Nat.zero_le _,HB0.out,Lib.hid fun j x hj => absurd hj (Nat.not_lt_zero _)⟩
 case round =>
  obtain ⟨k,rfl,hk,HB,HN⟩:=hrel
  by_cases hlt : k < ps.length
  ·obtain ⟨q,b0,off,hq,hmem,rfl,hb,x0,x1,x2,x3⟩:=Pt.arg_at HROW.out HB.out hlt
   have HQ:=Lib.hid hq
   have hs:=HB.out.size
   have HB1:=Lib.hid (HB.out.alloc hs (.cells #[.string q.dof,.string q.name,.int .i64 q.num,.slice q.at_ q.args.length q.cap] 28))
   clear hq
   go_wp2_with fail
   refine Calls.mono (HC.out q _) ?_
   rintro e w2 ⟨rfl,hb2⟩
   have HB2:=Lib.hid (HB1.out.trans (hb2.mono HB1.out.size))
   obtain ⟨z,hz⟩ : ∃ z,wildD q.dof = z:=⟨_,rfl⟩
   have HZ:=Lib.hid hz
   rw [hz]
   clear hb2 hz x0 x1 x2 x3
   cases z
   case false =>
    have HR:=Lib.hid (show res = false by
     rw [HRES.out,List.all_eq_false]
     exact ⟨q,hmem,by rw [HZ.out]; decide⟩)
    go_wp2_with fail
    go_ret
    exact ⟨by rw [HR.out]; rfl,HB2.out⟩
   case true =>
    clear hmem
    go_wp2_with fail
    exact ⟨⟨k + 1,by go_num,by omega,HB2.out,Lib.hid (fun j y hj hy => by
     by_cases hjk : j < k
     ·exact HN.out j y hjk hy
     ·have : j = k:=by omega
      subst this
      rw [HQ.out] at hy
      cases hy
      exact HZ.out)⟩,by simp [intOf]; omega⟩
  ·have hk2 : k = ps.length:=by omega
   have hn:=HN.out
   rw [hk2] at hn
   have HR:=Lib.hid (show res = true by
    rw [HRES.out,List.all_eq_true]
    intro x hx
    obtain ⟨j,hj⟩:=List.getElem?_of_mem hx
    exact hn j x (List.getElem?_eq_some_iff.1 hj).1 hj)
   clear hn hk2
   go_wp2_with fail
   go_ret
   exact ⟨by rw [HR.out]; rfl,HB.out⟩
end Go.Proofs.YtjeggkfgdhepaaaGreatDoor

namespace Go.Proofs.YtjeggkfgdhepaaaGreatDoor
open Go.RowKit
open Go.Proofs
set_option maxHeartbeats 2000000 in
theorem notWild2 (ps : List Pt) (A : Option Addr) (c : Nat) (w : World) (hl : ps.length ≤ 1099511627776) (hrow : RowAt w.heap.size w 4 A (ps.map Pt.cells)) :
  Calls Tryz.prog 54 #[.slice A ps.length c,.func (.func 124) #[] #[]] w fun e w' => e = .returned (.bool (!ps.all (fun q => wildD q.dof))) ∧ Below w.heap.size w w':=by
 have HR:=Lib.hid hrow
 refine Calls.mono (containsPat 124 (enters_of Tryz.func124 (by kernel_rfl) rfl) #[] ps A c w
   (fun k W => Below w.heap.size w W ∧ (ps.take k).all (fun q => wildD q.dof) = true) (fun k W => Below w.heap.size w W ∧ ps.all (fun q => wildD q.dof) = false) hl
   (fun k W hh => ⟨_,HR.out.keep hh.1⟩) ⟨Below.refl _ _,rfl⟩
   (fun k W q hq ⟨hb,hw⟩ => by
    have HB2:=Lib.hid ((Below.refl W.heap.size W).alloc (Nat.le_refl _) (.cells #[.string q.dof,.string q.name,.int .i64 q.num,.slice q.at_ q.args.length q.cap] 28))
    have HCC:=Lib.hid (fun W => isWild_any q W)
    have hcl : Calls Tryz.prog 124 (#[q.val] ++ #[]) W fun e W' => e = .returned (.bool (!wildD q.dof)) ∧ Below W.heap.size W W':=by
     clear hb hw
     unfold Pt.val at *
     show Calls _ _ #[_] _ _
     go_enter Tryz.func124,Tryz.ntmps124
     go_wp2_with fail
     refine Calls.mono (HCC.out _) ?_
     rintro e w1 ⟨rfl,hb1⟩
     have HB3:=Lib.hid (HB2.out.trans (hb1.mono HB2.out.size))
     clear hb1
     go_wp2_with fail
     go_ret
     exact ⟨rfl,HB3.out⟩
    refine Calls.mono hcl ?_
    rintro e W' ⟨rfl,hb2⟩
    have hb3:=hb.trans (hb2.mono hb.size)
    cases hr : wildD q.dof
    ·exact .inl ⟨rfl,hb3,all_no hq hr⟩
    ·exact .inr ⟨rfl,hb3,all_take_succ hq hw hr⟩)) ?_
 rintro e w2 (⟨i,hi,rfl,hb2,hno⟩ | ⟨rfl,hb2,hyes⟩)
 ·exact ⟨by rw [hno]; rfl,hb2⟩
 ·rw [List.take_length] at hyes
  exact ⟨by rw [hyes]; rfl,hb2⟩
set_option maxRecDepth 100000 in
set_option maxHeartbeats 2000000 in
theorem wilds_any (p : Pt) (b : ByteArray) (m : Nat) (w : World) (h : p.In w.heap.size w) :
  Calls Tryz.prog 95 #[p.val,.string b,.int .i64 m] w fun e w' => e = .returned (.bool (p.dof.toList == b.toList && (p.args.length == m && p.flatB))) ∧ Below w.heap.size w w':=by
 obtain ⟨d,s,n,a,c,ps⟩:=p
 obtain ⟨-,-,-,hpl,hcap,hrow,-⟩:=Pt.In_mk.1 h
 have HB0:=Lib.hid ((Below.refl w.heap.size w).alloc (Nat.le_refl _) (.cells #[.string d,.string s,.int .i64 n,.slice a ps.length c] 28))
 have HC:=Lib.hid (fun (W : World) (hW : Below w.heap.size w W) => notWild2 ps a c W hpl ((hrow.keep hW).wider hW.size))
 obtain ⟨z3,h3⟩ : ∃ z,ps.all (fun q => wildD q.dof) = z:=⟨_,rfl⟩
 have HF:=Lib.hid (show (Pt.mk d s n a c ps).flatB = z3 from h3)
 obtain ⟨z1,h1⟩ : ∃ z,(d.toList == b.toList) = z:=⟨_,rfl⟩
 obtain ⟨z2,h2⟩ : ∃ z,(ps.length == m) = z:=⟨_,rfl⟩
 have h4 : ((ps.length : Int) == (m : Int)) = z2:=by rw [← h2]; simp [Bool.beq_eq_decide_eq]; omega
 rw [HF.out]
 rw [h3] at HC
 clear h hrow h3
 unfold Pt.val at *
 simp only [Pt.dof,Pt.name,Pt.num,Pt.at_,Pt.cap,Pt.args]
 rw [h1,h2]
 go_enter Tryz.func95,Tryz.ntmps95
 cases z1
 case false =>
  go_wp2_with fail
  go_ret
  exact ⟨rfl,HB0.out⟩
 case true =>
  cases z2
  case false =>
   go_wp2_with fail
   go_ret
   exact ⟨rfl,HB0.out⟩
  case true =>
   go_wp2_with fail
   refine Calls.mono (HC.out _ HB0.out) ?_
   rintro e w1 ⟨rfl,hb1⟩
   have HB1:=Lib.hid (HB0.out.trans (hb1.mono HB0.out.size))
   clear hb1
   go_wp2_with fail
   go_ret
   exact ⟨by cases z3 <;> rfl,HB1.out⟩
end Go.Proofs.YtjeggkfgdhepaaaGreatDoor

namespace Go.Proofs.YtjeggkfgdhepaaaGreatDoor
open Go.RowKit
open Go.Proofs
def IntsP (l : List Pt) (k : Nat) : Prop:=∀ (i : Nat) (p : Pt),i < k → l[i]? = some p → isDo [105,110,116] p.dof = true ∧ ∀ (j : Nat) (q : Pt),j < i → l[j]? = some q → q.num ≠ p.num
theorem IntsP.succ {l : List Pt} {k : Nat} {p : Pt} (h : IntsP l k) (hp : l[k]? = some p) (hi : isDo [105,110,116] p.dof = true) (hn : ∀ (j : Nat) (q : Pt),j < k → l[j]? = some q → q.num ≠ p.num) : IntsP l (k + 1):=by
 intro i x hik hx
 by_cases hlt : i < k
 ·exact h i x hlt hx
 ·have : i = k:=by omega
  subst this
  rw [hp] at hx
  cases hx
  exact ⟨hi,hn⟩
set_option maxRecDepth 100000 in
set_option maxHeartbeats 4000000 in
theorem rnumbers_any (l : List Pt) (A : Option Addr) (c : Nat) (w : World) (hrow : RowAt w.heap.size w 4 A (l.map Pt.cells)) (hl : l.length ≤ c) (hl2 : l.length ≤ 1048576) :
  Calls Tryz.prog 100 #[.slice A l.length c] w fun e w' => (∃ b,e = .returned (.bool b) ∧ (b = true ↔ IntsP l l.length)) ∧ Below w.heap.size w w':=by
 have HROW:=Lib.hid hrow
 clear hrow
 go_enter Tryz.func100,Tryz.ntmps100
 go_wp2_with fail
 go_loopw [9] (fun iv wr => ∃ k : Nat,iv = .int .i64 k ∧ k ≤ l.length ∧ Hid (Below w.heap.size w wr) ∧ Hid (IntsP l k)) (fun iv _ => l.length - (intOf iv).toNat)
 case atStart => exact ⟨0,rfl,Nat.zero_le _,Below.refl _ _,Lib.hid fun i p hi => absurd hi (Nat.not_lt_zero _)⟩
 case round =>
  obtain ⟨k,rfl,hk,HB,HN⟩:=hrel
  by_cases hlt : k < l.length
  ·obtain ⟨q,b0,off,hq,hmem,rfl,hb,x0,x1,x2,x3⟩:=Pt.arg_at HROW.out HB.out hlt
   have HQ:=Lib.hid hq
   have hs:=HB.out.size
   obtain ⟨wx,rfl⟩ : ∃ wx : World,wx = wr:=⟨_,rfl⟩
   have HB1:=Lib.hid (HB.out.alloc hs (.cells #[.string q.dof,.string q.name,.int .i64 q.num,.slice q.at_ q.args.length q.cap] 28))
   have KQ:=Lib.hid (Blk.new wx #[.string q.dof,.string q.name,.int .i64 q.num,.slice q.at_ q.args.length q.cap] 28)
   obtain ⟨z,hz⟩ : ∃ z,(q.dof.toList == [105,110,116]) = z:=⟨_,rfl⟩
   have HZ:=Lib.hid (show isDo [105,110,116] q.dof = z from hz)
   clear hq hmem
   cases z
   case false =>
    have HNO:=Lib.hid (show ¬IntsP l l.length from fun h => by
     have:=(h k q hlt HQ.out).1
     rw [HZ.out] at this
     cases this)
    go_wp2_with fail
    go_ret
    exact ⟨⟨false,rfl,⟨fun h => (by cases h),fun h => absurd h HNO.out⟩⟩,HB1.out⟩
   case true =>
    go_wp2_with fail
    generalize wx.alloc (.cells #[.string q.dof,.string q.name,.int .i64 q.num,.slice q.at_ q.args.length q.cap] 28) = w1 at HB1 KQ ⊢
    clear x0 x1 x2 x3
    go_loopw [21] (fun iv wr => ∃ j : Nat,iv = .int .i64 j ∧ j ≤ k ∧ Hid (Below w1.heap.size w1 wr) ∧ Hid (∀ (i : Nat) (x : Pt),i < j → l[i]? = some x → x.num ≠ q.num)) (fun iv _ => k - (intOf iv).toNat)
    case atStart => exact ⟨0,rfl,Nat.zero_le _,Below.refl _ _,Lib.hid fun i x hi => absurd hi (Nat.not_lt_zero _)⟩
    case round =>
     obtain ⟨j,rfl,hj,HC,HM⟩:=hrel
     have HBW:=Lib.hid (HB1.out.trans (HC.out.mono HB1.out.size))
     have KW:=Lib.hid (KQ.out.below HC.out KQ.out.lt)
     obtain ⟨y0,y1,y2,y3⟩:=KW.out.four
     have yl:=KW.out.lt
     have hs2:=HBW.out.size
     by_cases hlt2 : j < k
     ·obtain ⟨x,b2,off2,hx,hmem2,he2,hb2,x0,x1,x2,x3⟩:=Pt.arg_at HROW.out HBW.out (show j < l.length by omega)
      simp only [Option.some.injEq,Addr.mk.injEq,and_true] at he2
      obtain ⟨rfl,rfl⟩:=he2
      have HX:=Lib.hid hx
      have HB2:=Lib.hid (HC.out.alloc HC.out.size (.cells #[.string x.dof,.string x.name,.int .i64 x.num,.slice x.at_ x.args.length x.cap] 28))
      have HBW2:=Lib.hid (HBW.out.alloc hs2 (.cells #[.string x.dof,.string x.name,.int .i64 x.num,.slice x.at_ x.args.length x.cap] 28))
      obtain ⟨z,hz2⟩ : ∃ z,(q.num == x.num) = z:=⟨_,rfl⟩
      have HZ2:=Lib.hid hz2
      clear hx hmem2
      cases z
      case true =>
       have HNO:=Lib.hid (show ¬IntsP l l.length from fun h => (h k q hlt HQ.out).2 j x hlt2 HX.out (by have:=HZ2.out; simp at this; exact this.symm))
       go_wp2_with fail
       go_ret
       exact ⟨⟨false,rfl,⟨fun h => (by cases h),fun h => absurd h HNO.out⟩⟩,HBW2.out⟩
      case false =>
       go_wp2_with fail
       exact ⟨⟨j + 1,by go_num,by omega,HB2.out,Lib.hid (fun i y hi hy => by
        by_cases hij : i < j
        ·exact HM.out i y hij hy
        ·have : i = j:=by omega
         subst this
         rw [HX.out] at hy
         cases hy
         have:=HZ2.out
         simp at this
         exact fun e => this e.symm)⟩,by simp [intOf]; omega⟩
     ·have hj2 : j = k:=by omega
      have HM2:=Lib.hid (show IntsP l (k + 1) from HN.out.succ HQ.out HZ.out (by have:=HM.out; rw [hj2] at this; exact this))
      clear hj2
      go_wp2_with fail
      exact ⟨⟨k + 1,by go_num,by omega,HBW.out,HM2.out⟩,by simp [intOf]; omega⟩
  ·have hk2 : k = l.length:=by omega
   subst hk2
   go_wp2_with fail
   go_ret
   exact ⟨⟨true,rfl,⟨fun _ => HN.out,fun _ => rfl⟩⟩,HB.out⟩
end Go.Proofs.YtjeggkfgdhepaaaGreatDoor

namespace Go.Proofs.YtjeggkfgdhepaaaGreatDoor
open Go.RowKit
open Go.Proofs
set_option maxRecDepth 100000 in
set_option maxHeartbeats 2000000 in
theorem simp_con (p : Pt) (x : Cn) (w : World) (h : p.In w.heap.size w) :
  Calls Tryz.prog 98 #[p.val,x.val] w fun e w' => e = .returned (.bool (p.name.toList == x.name.toList && (p.dof.toList == [99,111,110] && p.flatB))) ∧ Below w.heap.size w w':=by
 have HW:=Lib.hid (fun (W : World) (hW : Below w.heap.size w W) => wilds_any p ⟨#[99,111,110]⟩ p.args.length W (h.next hW))
 obtain ⟨z1,h1⟩ : ∃ z,(p.name.toList == x.name.toList) = z:=⟨_,rfl⟩
 obtain ⟨z2,h2⟩ : ∃ z,(p.dof.toList == [99,111,110] && p.flatB) = z:=⟨_,rfl⟩
 have H2:=Lib.hid h2
 have hcon : (⟨#[99,111,110]⟩ : ByteArray).toList = [99,111,110]:=by decide +kernel
 simp only [hcon,BEq.rfl,Bool.true_and] at HW
 have e2 : p.flatB = p.flatB:=rfl
 rw [h1,h2]
 rw [h2] at HW
 have HB0:=Lib.hid (((Below.refl w.heap.size w).alloc (Nat.le_refl _) (.cells #[.string p.dof,.string p.name,.int .i64 p.num,.slice p.at_ p.args.length p.cap] 28)).alloc (by simp) (.cells #[.string x.name,.bool x.has,.string x.ty.dof,.string x.ty.name,.slice x.ty.at_ x.ty.args.length x.ty.cap] 117))
 clear h h2 hcon e2
 unfold Pt.val Cn.val at *
 go_enter Tryz.func98,Tryz.ntmps98
 cases z1
 case false =>
  go_wp2_with fail
  go_ret
  exact ⟨rfl,HB0.out⟩
 case true =>
  go_wp2_with fail
  refine Calls.mono (HW.out _ HB0.out) ?_
  rintro e w1 ⟨rfl,hb1⟩
  have HB1:=Lib.hid (HB0.out.trans (hb1.mono HB0.out.size))
  clear hb1
  go_wp2_with fail
  go_ret
  exact ⟨rfl,HB1.out⟩
end Go.Proofs.YtjeggkfgdhepaaaGreatDoor

namespace Go.Proofs.YtjeggkfgdhepaaaGreatDoor
open Go.RowKit
open Go.Proofs
open Go.Maps (Keyed)
theorem lawInt : Keyed Tryz.prog 3:=Maps.int_keyed Tryz.underlying3
structure SMap (D : DataW Value) (S : List Int) : Prop where
 tidy : Maps.Tidy D
 at_ : ∀ x ∈ S,∀ z,D.atKey (.int .i64 x) z = .held (.bool true)
 has : ∀ x,Maps.has D (.int .i64 x) = decide (x ∈ S)
theorem SMap.nil : SMap (.map []) []:=
 ⟨Maps.tidy_empty,fun x h => (by cases h),fun x => rfl⟩
theorem SMap.put {D : DataW Value} {S : List Int} (h : SMap D S) (x : Int) : SMap (D.put (.int .i64 x) (.held (.bool true))) (x :: S):=by
 have hk : WideAt.IsKeyLit (.int .i64 x):=trivial
 refine ⟨h.tidy.put hk _,fun y hy z => ?_,fun y => ?_⟩
 ·by_cases hs : x = y
  ·subst hs
   exact Maps.atKey_put_same h.tidy.isMap hk _ _
  ·rw [Maps.atKey_put_other (fun e => hs (by cases e; rfl))]
   exact h.at_ y ((List.mem_cons.1 hy).resolve_left fun e => hs e.symm) z
 ·by_cases hs : x = y
  ·subst hs
   rw [Maps.has_put_same h.tidy.isMap hk]
   simp
  ·rw [Maps.has_put_other (fun e => hs (by cases e; rfl)),h.has y]
   have : ¬y = x:=fun e => hs e.symm
   simp [this]
def SetAt (w : World) (b n : Nat) (S : List Int) : Prop:=∃ D,w.ownsMap Tryz.prog 3 (rdE Value.bool) b n D ∧ SMap D S
section
variable {w w' : World} {b n : Nat} {S : List Int}
theorem SetAt.lt (h : SetAt w b n S) : b < w.heap.size:=by
 obtain ⟨D,h,-⟩:=h
 exact h.lt
theorem SetAt.block (h : SetAt w b n S) (hb : w'.heap[b]? = w.heap[b]?) : SetAt w' b n S:=by
 obtain ⟨D,h,hn⟩:=h
 exact ⟨D,owns_of_block h hb,hn⟩
theorem SetAt.next (h : SetAt w b n S) (hb : Below w.heap.size w w') : SetAt w' b n S:=h.block (hb.block b h.lt)
theorem SetAt.made (w : World) : SetAt (w.alloc (.map #[] 0)) w.heap.size 0 []:=⟨_,World.ownsMap_made _ _ _ _,SMap.nil⟩
end
theorem int_wf9 {x : Int} (h1 : -9223372036854775808 ≤ x) (h2 : x ≤ 9223372036854775807) : (Lit.int .i64 x).wf = true:=by
 simp [Lit.wf,IntKind.min,IntKind.max,IntKind.signed,IntKind.bits]
 omega
theorem set_look {w : World} {b n : Nat} {S : List Int} {t e : TypeId} (ht : Tryz.prog.underlying t = some (.map 3 e)) (hz : (zeroValue e).run Tryz.prog w = .ok (.bool false) w) (h : SetAt w b n S) (x : Int) (h1 : -9223372036854775808 ≤ x) (h2 : x ≤ 9223372036854775807) :
  (Instr.lookup t (.map (some b)) (.int .i64 x) false).run Tryz.prog w = .ok (.bool (decide (x ∈ S))) w:=by
 obtain ⟨D,hown,hnm⟩:=h
 obtain ⟨es,clock,hb,F,_,rfl⟩:=hown
 rcases Maps.fit_look false lawInt ht hz hb F (Maps.keyOf_int_mk Tryz.underlying3 (int_wf9 h1 h2)) with ⟨hrun,_,hat⟩ | ⟨e0,y,_,_,hrun,hRv,hat,_⟩
 ·rw [hrun]
  by_cases hl : x ∈ S
  ·have h1:=hnm.at_ x hl .nil
   rw [show DataW.atKey _ (.int .i64 x) .nil = .nil from hat .nil] at h1
   cases h1
  ·rw [decide_eq_false hl]
   rfl
 ·rw [hrun]
  obtain ⟨-,he⟩:=rdE_inv hRv
  by_cases hl : x ∈ S
  ·have h1:=hnm.at_ x hl .nil
   rw [show DataW.atKey _ (.int .i64 x) .nil = y.1 from hat .nil,he] at h1
   simp only [DataW.held.injEq] at h1
   rw [h1,decide_eq_true hl]
   rfl
  ·have hno:=hnm.has x
   rw [decide_eq_false hl] at hno
   have h1:=Maps.atKey_of_not_has (show _ = false from hno) .nil
   rw [show DataW.atKey _ (.int .i64 x) .nil = y.1 from hat .nil,he] at h1
   cases h1
theorem set_put {ops : Array Oper} {rest : List Oper} {o : Oper} {a : Act} {Q : Exit → Act → World → Prop} {w : World} {b n : Nat} {S : List Int} (hg : o.guard = none) (m x v : Operand) (t e : TypeId) (hop : o.op = Op.mapUpdate t m x v) (ht : Tryz.prog.underlying t = some (.map 3 e)) (hm : a.eval m = .map (some b)) (h : SetAt w b n S) (hn : n ≤ 1099511627776)
  (y : Int) (h1 : -9223372036854775808 ≤ y) (h2 : y ≤ 9223372036854775807) (hx : a.eval x = .int .i64 y) (hv : a.eval v = .bool true)
  (hK : ∀ w',SetAt w' b (n + 1) (y :: S) → w.grownBy w' (some b) → wpList Tryz.prog ops Q rest (a.put o.dst undef) w') : wpList Tryz.prog ops Q (o :: rest) a w:=by
 obtain ⟨D,hown,hnm⟩:=h
 refine wpList_mapUpdate_own w hg m x v t hop 3 e lawInt ht (rdE Value.bool) b n D hm hown (by unfold maxLen; omega) (.int .i64 y) (.bool true) (.int .i64 y) hx hv (Maps.keyOf_int_mk Tryz.underlying3 (int_wf9 h1 h2)) (.held (.bool true)) [] (rdE_mk Value.bool true) ?_
 intro w' h1 h2
 exact hK w' ⟨_,h1,hnm.put y⟩ h2
end Go.Proofs.YtjeggkfgdhepaaaGreatDoor

namespace Go.Proofs.YtjeggkfgdhepaaaGreatDoor
open Go.RowKit
open Go.Proofs
def okC (p : Pt) (x : Cn) : Bool:=p.name.toList == x.name.toList && (p.dof.toList == [99,111,110] && p.flatB)
def ConsP (ps : List Pt) (cs : List Cn) (k : Nat) : Prop:=∀ (i : Nat) (p : Pt) (x : Cn),i < k → ps[i]? = some p → cs[i]? = some x → okC p x = true
set_option maxRecDepth 100000 in
set_option maxHeartbeats 2000000 in
theorem equal_gen (g : Nat) (eg : ∀ args w,(callFunc g args).run Tryz.prog w = .ok (.enter g args) w) (lb : Array Value) (ps : List Pt) (A : Option Addr) (c : Nat) (cs : List Cn) (A2 : Option Addr) (c2 : Nat) (w : World) (h1 : RowAt w.heap.size w 4 A (ps.map Pt.cells)) (h1a : ∀ p ∈ ps,p.In w.heap.size w) (h2 : RowAt w.heap.size w 5 A2 (cs.map Cn.cells)) (hl : ps.length ≤ 1048576) (hcall : ∀ (p : Pt) (x : Cn) (W : World),Below w.heap.size w W → p ∈ ps → Calls Tryz.prog g (#[p.val,x.val] ++ lb) W fun e w' => e = .returned (.bool (okC p x)) ∧ Below W.heap.size W w') :
  Calls Tryz.prog 97 #[.slice A ps.length c,.slice A2 cs.length c2,.func (.func g) #[] lb] w (YesNo (ps.length = cs.length ∧ ConsP ps cs ps.length) w):=by
 generalize hP : (ps.length = cs.length ∧ ConsP ps cs ps.length) = P
 have HP:=Lib.hid hP
 have H1:=Lib.hid h1
 have H2:=Lib.hid h2
 have HC:=Lib.hid hcall
 clear h1 h2 h1a hcall hP
 unfold Pt.val Cn.val at HC
 go_enter Tryz.func97,Tryz.ntmps97
 by_cases he : ps.length = cs.length
 case neg =>
  have hz : ((ps.length : Int) != (cs.length : Int)) = true:=by simp; omega
  have HE:=Lib.hid he
  clear he
  go_wp2_with fail
  go_ret
  exact YesNo.no (fun h => HE.out (HP.out.mpr h).1) (Below.refl _ _)
 have HE:=Lib.hid he
 rw [← he]
 clear he
 go_wp2_with fail
 go_loopw [17] (fun iv wr => ∃ k : Nat,iv = .int .i64 k ∧ k ≤ ps.length ∧ Hid (Below w.heap.size w wr) ∧ Hid (ConsP ps cs k)) (fun iv _ => ps.length - (intOf iv).toNat)
 case atStart => exact ⟨0,rfl,Nat.zero_le _,Below.refl _ _,Lib.hid fun i p x hi => absurd hi (Nat.not_lt_zero _)⟩
 case round =>
  obtain ⟨k,rfl,hk,HB,HN⟩:=hrel
  by_cases hlt : k < ps.length
  ·obtain ⟨q,b0,off,hq,hmem,rfl,hb,x0,x1,x2,x3⟩:=Pt.arg_at H1.out HB.out hlt
   obtain ⟨x,b5,off5,hx,hm5,rfl,hb5,z0,z1,z2,z3,z4⟩:=Cn.arg_at H2.out (HB.out.alloc HB.out.size (.cells #[.string q.dof,.string q.name,.int .i64 q.num,.slice q.at_ q.args.length q.cap] 28)) (show k < cs.length by rw [← HE.out]; exact hlt)
   have HQ:=Lib.hid hq
   have HX:=Lib.hid hx
   have hs:=HB.out.size
   have HB1:=Lib.hid ((HB.out.alloc hs (.cells #[.string q.dof,.string q.name,.int .i64 q.num,.slice q.at_ q.args.length q.cap] 28)).alloc (by simp; omega) (.cells #[.string x.name,.bool x.has,.string x.ty.dof,.string x.ty.name,.slice x.ty.at_ x.ty.args.length x.ty.cap] 117))
   have HCC:=Lib.hid (HC.out q x _ HB1.out hmem)
   obtain ⟨z,hz⟩ : ∃ z,okC q x = z:=⟨_,rfl⟩
   have HZ:=Lib.hid hz
   rw [hz] at HCC
   clear hq hmem hx hm5 hz
   go_wp2_with fail
   refine Calls.mono HCC.out ?_
   rintro e w2 ⟨rfl,hb2⟩
   have HB2:=Lib.hid (HB1.out.trans (hb2.mono HB1.out.size))
   clear hb2 x0 x1 x2 x3 z0 z1 z2 z3 z4
   cases z
   case false =>
    have HNO:=Lib.hid (show ¬ConsP ps cs ps.length from fun h => by
     have:=h k q x hlt HQ.out HX.out
     rw [HZ.out] at this
     cases this)
    go_wp2_with fail
    go_ret
    exact YesNo.no (fun h => HNO.out (HP.out.mpr h).2) HB2.out
   case true =>
    go_wp2_with fail
    exact ⟨⟨k + 1,by go_num,by omega,HB2.out,Lib.hid (fun i p y hi hp hy => by
     by_cases hik : i < k
     ·exact HN.out i p y hik hp hy
     ·have : i = k:=by omega
      subst this
      rw [HQ.out] at hp
      rw [HX.out] at hy
      cases hp
      cases hy
      exact HZ.out)⟩,by simp [intOf]; omega⟩
  ·have hk2 : k = ps.length:=by omega
   subst hk2
   go_wp2_with fail
   go_ret
   exact YesNo.yes (HP.out.mp ⟨HE.out,HN.out⟩) HB.out
theorem equal_con (ps : List Pt) (A : Option Addr) (c : Nat) (cs : List Cn) (A2 : Option Addr) (c2 : Nat) (w : World) (h1 : RowAt w.heap.size w 4 A (ps.map Pt.cells)) (h1a : ∀ p ∈ ps,p.In w.heap.size w) (h2 : RowAt w.heap.size w 5 A2 (cs.map Cn.cells)) (hl : ps.length ≤ 1048576) :
  Calls Tryz.prog 97 #[.slice A ps.length c,.slice A2 cs.length c2,.func (.func 98) #[] #[]] w (YesNo (ps.length = cs.length ∧ ConsP ps cs ps.length) w):=
 equal_gen 98 (enters_of Tryz.func98 (by kernel_rfl) rfl) #[] ps A c cs A2 c2 w h1 h1a h2 hl fun p x W hW hm => simp_con p x W ((h1a p hm).next hW)
end Go.Proofs.YtjeggkfgdhepaaaGreatDoor

namespace Go.Proofs.YtjeggkfgdhepaaaGreatDoor
open Go.RowKit
open Go.Proofs
def oneR : List Pt → Bool
 | [p] => wildD p.dof || (isDo [112,97,105,114] p.dof || isDo [117,110,105,116] p.dof)
 | _ => false
def oneL : List Pt → Bool
 | [p] => wildD p.dof || (isDo [112,97,105,114] p.dof && (p.args.length == 2 && p.flatB) || isDo [117,110,105,116] p.dof)
 | _ => false
def listR : List Pt → Bool
 | [p,q] => isDo [110,105,108] p.dof && isDo [99,111,110,115] q.dof
 | _ => false
def listL : List Pt → Bool
 | [p,q] => isDo [110,105,108] p.dof && (isDo [99,111,110,115] q.dof && (q.args.length == 2 && q.flatB))
 | _ => false
def boolR : List Pt → Bool
 | [p,q] => isDo [98,111,111,108] p.dof && (p.num == 0 && (isDo [98,111,111,108] q.dof && q.num == 1))
 | _ => false
def lastW (ps : List Pt) : Prop:=∃ p,ps[ps.length - 1]? = some p ∧ wildD p.dof = true
def IntP (ps : List Pt) : Prop:=1 < ps.length ∧ IntsP ps (ps.length - 1) ∧ lastW ps
def DataR (ps : List Pt) (cs : List Cn) : Prop:=ps.length = cs.length ∧ ∀ (i : Nat) (p : Pt) (x : Cn),i < ps.length → ps[i]? = some p → cs[i]? = some x → isDo [99,111,110] p.dof = true ∧ p.name.toList = x.name.toList
def SimR (l : List Dt) (t : Ty) (ps : List Pt) : Prop:=(∀ p ∈ ps,p.flatB = true) ∧ ps ≠ [] ∧
 (oneR ps = true ∨ (isDo [108,105,115,116] t.dof = true ∧ listR ps = true) ∨ (isDo [98,111,111,108] t.dof = true ∧ boolR ps = true) ∨ (isDo [105,110,116] t.dof = true ∧ IntP ps) ∨ (isDo [100,97,116,97] t.dof = true ∧ DataR ps (consOf l t.name)))
def SimL (l : List Dt) (t : Ty) (ps : List Pt) : Prop:=ps ≠ [] ∧
 (oneL ps = true ∨ (isDo [108,105,115,116] t.dof = true ∧ listL ps = true) ∨ (isDo [98,111,111,108] t.dof = true ∧ boolR ps = true) ∨ (isDo [105,110,116] t.dof = true ∧ IntP ps) ∨ (isDo [100,97,116,97] t.dof = true ∧ (ps.length = (consOf l t.name).length ∧ ConsP ps (consOf l t.name) ps.length)))
theorem flat_nil {p : Pt} (h : p.args = []) : p.flatB = true:=by unfold Pt.flatB; rw [h]; rfl
theorem sim_args {p : Pt} (h : p.wellB = true) : ((wildD p.dof = true ∨ isDo [117,110,105,116] p.dof = true ∨ isDo [110,105,108] p.dof = true ∨ isDo [105,110,116] p.dof = true ∨ isDo [98,111,111,108] p.dof = true) → p.args = []) ∧ ((isDo [112,97,105,114] p.dof = true ∨ isDo [99,111,110,115] p.dof = true) → p.args.length = 2):=by
 obtain ⟨d,s,n,a,c,ps⟩:=p
 rw [Pt.wellB_mk,Bool.and_eq_true] at h
 have h:=h.1
 simp only [Pt.dof,Pt.args,wildD,isDo]
 unfold nodeOk at h
 refine ⟨fun hh => ?_,fun hh => ?_⟩
 ·have key : ps.length = 0:=by
   simp only [Bool.or_eq_true,beq_iff_eq] at hh
   rcases hh with (hh | hh) | hh | hh | hh | hh <;> rw [hh] at h <;> simp at h <;> simp [h]
  exact List.eq_nil_of_length_eq_zero key
 ·simp only [beq_iff_eq] at hh
  rcases hh with hh | hh <;> rw [hh] at h <;> simp at h <;> simp [h]
theorem simL_list {l : List Dt} {t : Ty} {ps : List Pt} (h : isDo [108,105,115,116] t.dof = true) (h1 : oneL ps = false) (hne : ps ≠ []) : SimL l t ps ↔ listL ps = true:=by
 have g1:=do_other (b:=[98,111,111,108]) h (by decide)
 have g2:=do_other (b:=[105,110,116]) h (by decide)
 have g3:=do_other (b:=[100,97,116,97]) h (by decide)
 unfold SimL
 simp [isDo,g1,g2,g3,h1,hne,show (t.dof.toList == [108,105,115,116]) = true from h]
theorem simL_bool {l : List Dt} {t : Ty} {ps : List Pt} (h : isDo [98,111,111,108] t.dof = true) (h1 : oneL ps = false) (hne : ps ≠ []) : SimL l t ps ↔ boolR ps = true:=by
 have g1:=do_other (b:=[108,105,115,116]) h (by decide)
 have g2:=do_other (b:=[105,110,116]) h (by decide)
 have g3:=do_other (b:=[100,97,116,97]) h (by decide)
 unfold SimL
 simp [isDo,g1,g2,g3,h1,hne,show (t.dof.toList == [98,111,111,108]) = true from h]
theorem simL_int {l : List Dt} {t : Ty} {ps : List Pt} (h : isDo [105,110,116] t.dof = true) (h1 : oneL ps = false) (hne : ps ≠ []) : SimL l t ps ↔ IntP ps:=by
 have g1:=do_other (b:=[108,105,115,116]) h (by decide)
 have g2:=do_other (b:=[98,111,111,108]) h (by decide)
 have g3:=do_other (b:=[100,97,116,97]) h (by decide)
 unfold SimL
 simp [isDo,g1,g2,g3,h1,hne,show (t.dof.toList == [105,110,116]) = true from h]
theorem simL_data {l : List Dt} {t : Ty} {ps : List Pt} (h : isDo [100,97,116,97] t.dof = true) (h1 : oneL ps = false) (hne : ps ≠ []) : SimL l t ps ↔ (ps.length = (consOf l t.name).length ∧ ConsP ps (consOf l t.name) ps.length):=by
 have g1:=do_other (b:=[108,105,115,116]) h (by decide)
 have g2:=do_other (b:=[98,111,111,108]) h (by decide)
 have g3:=do_other (b:=[105,110,116]) h (by decide)
 unfold SimL
 simp [isDo,g1,g2,g3,h1,hne,show (t.dof.toList == [100,97,116,97]) = true from h]
theorem simL_none {l : List Dt} {t : Ty} {ps : List Pt} (g1 : isDo [108,105,115,116] t.dof = false) (g2 : isDo [98,111,111,108] t.dof = false) (g3 : isDo [105,110,116] t.dof = false) (g4 : isDo [100,97,116,97] t.dof = false) (h1 : oneL ps = false) : ¬SimL l t ps:=by
 unfold SimL
 simp [g1,g2,g3,g4,h1]
theorem simR_list {l : List Dt} {t : Ty} {ps : List Pt} (h : isDo [108,105,115,116] t.dof = true) (h1 : oneR ps = false) (hne : ps ≠ []) (hf : ∀ p ∈ ps,p.flatB = true) : SimR l t ps ↔ listR ps = true:=by
 have g1:=do_other (b:=[98,111,111,108]) h (by decide)
 have g2:=do_other (b:=[105,110,116]) h (by decide)
 have g3:=do_other (b:=[100,97,116,97]) h (by decide)
 unfold SimR
 rw [and_iff_right hf]
 simp [isDo,g1,g2,g3,h1,hne,show (t.dof.toList == [108,105,115,116]) = true from h]
theorem simR_bool {l : List Dt} {t : Ty} {ps : List Pt} (h : isDo [98,111,111,108] t.dof = true) (h1 : oneR ps = false) (hne : ps ≠ []) (hf : ∀ p ∈ ps,p.flatB = true) : SimR l t ps ↔ boolR ps = true:=by
 have g1:=do_other (b:=[108,105,115,116]) h (by decide)
 have g2:=do_other (b:=[105,110,116]) h (by decide)
 have g3:=do_other (b:=[100,97,116,97]) h (by decide)
 unfold SimR
 rw [and_iff_right hf]
 simp [isDo,g1,g2,g3,h1,hne,show (t.dof.toList == [98,111,111,108]) = true from h]
theorem simR_int {l : List Dt} {t : Ty} {ps : List Pt} (h : isDo [105,110,116] t.dof = true) (h1 : oneR ps = false) (hne : ps ≠ []) (hf : ∀ p ∈ ps,p.flatB = true) : SimR l t ps ↔ IntP ps:=by
 have g1:=do_other (b:=[108,105,115,116]) h (by decide)
 have g2:=do_other (b:=[98,111,111,108]) h (by decide)
 have g3:=do_other (b:=[100,97,116,97]) h (by decide)
 unfold SimR
 rw [and_iff_right hf]
 simp [isDo,g1,g2,g3,h1,hne,show (t.dof.toList == [105,110,116]) = true from h]
theorem simR_data {l : List Dt} {t : Ty} {ps : List Pt} (h : isDo [100,97,116,97] t.dof = true) (h1 : oneR ps = false) (hne : ps ≠ []) (hf : ∀ p ∈ ps,p.flatB = true) : SimR l t ps ↔ DataR ps (consOf l t.name):=by
 have g1:=do_other (b:=[108,105,115,116]) h (by decide)
 have g2:=do_other (b:=[98,111,111,108]) h (by decide)
 have g3:=do_other (b:=[105,110,116]) h (by decide)
 unfold SimR
 rw [and_iff_right hf]
 simp [isDo,g1,g2,g3,h1,hne,show (t.dof.toList == [100,97,116,97]) = true from h]
theorem simR_none {l : List Dt} {t : Ty} {ps : List Pt} (g1 : isDo [108,105,115,116] t.dof = false) (g2 : isDo [98,111,111,108] t.dof = false) (g3 : isDo [105,110,116] t.dof = false) (g4 : isDo [100,97,116,97] t.dof = false) (h1 : oneR ps = false) : ¬SimR l t ps:=by
 unfold SimR
 simp [g1,g2,g3,g4,h1]
theorem sim_same {l : List Dt} {t : Ty} {ps : List Pt} (hw : ∀ p ∈ ps,p.wellB = true) : SimL l t ps ↔ SimR l t ps:=by
 have A0 : ∀ p ∈ ps,(wildD p.dof = true ∨ isDo [117,110,105,116] p.dof = true ∨ isDo [110,105,108] p.dof = true ∨ isDo [105,110,116] p.dof = true ∨ isDo [98,111,111,108] p.dof = true) → p.flatB = true:=fun p hp h => flat_nil ((sim_args (hw p hp)).1 h)
 have A2 : ∀ p ∈ ps,(isDo [112,97,105,114] p.dof = true ∨ isDo [99,111,110,115] p.dof = true) → p.args.length = 2:=fun p hp => (sim_args (hw p hp)).2
 constructor
 ·rintro ⟨hne,h | ⟨ht,h⟩ | ⟨ht,h⟩ | ⟨ht,h⟩ | ⟨ht,h⟩⟩
  ·match ps,h,A0,A2 with
   | [p],h,A0,A2 =>
    simp only [oneL,Bool.or_eq_true,Bool.and_eq_true,beq_iff_eq] at h
    refine ⟨fun x hx => ?_,by simp,.inl ?_⟩
    ·rw [List.mem_singleton] at hx
     subst hx
     rcases h with h | ⟨-,-,h⟩ | h
     ·exact A0 x (by simp) (.inl h)
     ·exact h
     ·exact A0 x (by simp) (.inr (.inl h))
    ·simp only [oneR,Bool.or_eq_true]
     rcases h with h | ⟨h,-⟩ | h
     ·exact .inl h
     ·exact .inr (.inl h)
     ·exact .inr (.inr h)
  ·match ps,h,A0,A2 with
   | [p,q],h,A0,A2 =>
    simp only [listL,Bool.and_eq_true,beq_iff_eq] at h
    refine ⟨fun x hx => ?_,by simp,.inr (.inl ⟨ht, ?_⟩)⟩
    ·rcases List.mem_cons.1 hx with rfl | hx
     ·exact A0 x (by simp) (.inr (.inr (.inl h.1)))
     ·rw [List.mem_singleton] at hx
      subst hx
      exact h.2.2.2
    ·simp only [listR,Bool.and_eq_true]
     exact ⟨h.1,h.2.1⟩
  ·refine ⟨?_,hne,.inr (.inr (.inl ⟨ht,h⟩))⟩
   match ps,h,A0,A2 with
   | [p,q],h,A0,A2 =>
    simp only [boolR,Bool.and_eq_true,beq_iff_eq] at h
    intro x hx
    rcases List.mem_cons.1 hx with rfl | hx
    ·exact A0 x (by simp) (.inr (.inr (.inr (.inr h.1))))
    ·rw [List.mem_singleton] at hx
     subst hx
     exact A0 x (by simp) (.inr (.inr (.inr (.inr h.2.2.1))))
  ·refine ⟨fun x hx => ?_,hne,.inr (.inr (.inr (.inl ⟨ht,h⟩)))⟩
   obtain ⟨i,hi⟩:=List.getElem?_of_mem hx
   have hil : i < ps.length:=(List.getElem?_eq_some_iff.1 hi).1
   by_cases hlt : i < ps.length - 1
   ·exact A0 x hx (.inr (.inr (.inr (.inl (h.2.1 i x hlt hi).1))))
   ·have : i = ps.length - 1:=by omega
    subst this
    obtain ⟨p,hp,hpw⟩:=h.2.2
    rw [hi] at hp
    cases hp
    exact A0 x hx (.inl hpw)
  ·have hok : ∀ (i : Nat) (p : Pt),ps[i]? = some p → ∃ x,(consOf l t.name)[i]? = some x ∧ okC p x = true:=fun i p hp => by
    have hil : i < ps.length:=(List.getElem?_eq_some_iff.1 hp).1
    have hx : (consOf l t.name)[i]? = some ((consOf l t.name)[i]'(by rw [← h.1]; exact hil)):=List.getElem?_eq_getElem _
    exact ⟨_,hx,h.2 i p _ hil hp hx⟩
   refine ⟨fun x hx => ?_,hne,.inr (.inr (.inr (.inr ⟨ht,h.1,fun i p x hi hp hx => ?_⟩)))⟩
   ·obtain ⟨i,hi⟩:=List.getElem?_of_mem hx
    obtain ⟨y,-,hy⟩:=hok i x hi
    simp only [okC,Bool.and_eq_true] at hy
    exact hy.2.2
   ·have:=h.2 i p x hi hp hx
    simp only [okC,Bool.and_eq_true,beq_iff_eq] at this
    exact ⟨by unfold isDo; rw [beq_iff_eq]; exact this.2.1,this.1⟩
 ·rintro ⟨hf,hne,h | ⟨ht,h⟩ | ⟨ht,h⟩ | ⟨ht,h⟩ | ⟨ht,h⟩⟩
  ·refine ⟨hne,.inl ?_⟩
   match ps,h,hf,A2 with
   | [p],h,hf,A2 =>
    simp only [oneR,Bool.or_eq_true] at h
    simp only [oneL,Bool.or_eq_true,Bool.and_eq_true,beq_iff_eq]
    rcases h with h | h | h
    ·exact .inl h
    ·exact .inr (.inl ⟨h,A2 p (by simp) (.inl h),hf p (by simp)⟩)
    ·exact .inr (.inr h)
  ·refine ⟨hne,.inr (.inl ⟨ht, ?_⟩)⟩
   match ps,h,hf,A2 with
   | [p,q],h,hf,A2 =>
    simp only [listR,Bool.and_eq_true] at h
    simp only [listL,Bool.and_eq_true,beq_iff_eq]
    exact ⟨h.1,h.2,A2 q (by simp) (.inr h.2),hf q (by simp)⟩
  ·exact ⟨hne,.inr (.inr (.inl ⟨ht,h⟩))⟩
  ·exact ⟨hne,.inr (.inr (.inr (.inl ⟨ht,h⟩)))⟩
  ·refine ⟨hne,.inr (.inr (.inr (.inr ⟨ht,h.1,fun i p x hi hp hx => ?_⟩)))⟩
   have hh:=h.2 i p x hi hp hx
   simp only [okC,Bool.and_eq_true,beq_iff_eq]
   refine ⟨hh.2, ?_,hf p (List.mem_of_getElem? hp)⟩
   have:=hh.1
   unfold isDo at this
   rwa [beq_iff_eq] at this
end Go.Proofs.YtjeggkfgdhepaaaGreatDoor

namespace Go.Proofs.YtjeggkfgdhepaaaGreatDoor
open Go.RowKit
open Go.Proofs
open Go.Maps
theorem zeroBool (w : World) : (zeroValue 4).run Tryz.prog w = .ok (.bool false) w:=by kernel_rfl
def NumsOf (ps : List Pt) (k : Nat) (S : List Int) : Prop:=∀ x,x ∈ S ↔ ∃ (j : Nat) (q : Pt),j < k ∧ ps[j]? = some q ∧ q.num = x
theorem NumsOf.succ {ps : List Pt} {k : Nat} {S : List Int} {q : Pt} (h : NumsOf ps k S) (hq : ps[k]? = some q) : NumsOf ps (k + 1) (q.num :: S):=by
 intro x
 rw [List.mem_cons,h x]
 constructor
 ·rintro (rfl | ⟨j,p,hj,hp,he⟩)
  ·exact ⟨k,q,by omega,hq,rfl⟩
  ·exact ⟨j,p,by omega,hp,he⟩
 ·rintro ⟨j,p,hj,hp,he⟩
  by_cases hjk : j < k
  ·exact .inr ⟨j,p,hjk,hp,he⟩
  ·have : j = k:=by omega
   subst this
   rw [hq] at hp
   cases hp
   exact .inl he.symm
set_option maxRecDepth 100000 in
set_option maxHeartbeats 4000000 in
theorem ints_any (ps : List Pt) (A : Option Addr) (c : Nat) (w : World) (hrow : RowAt w.heap.size w 4 A (ps.map Pt.cells)) (hnum : ∀ p ∈ ps,-9223372036854775808 ≤ p.num ∧ p.num ≤ 9223372036854775807) (hne : ps ≠ []) (hl : ps.length ≤ 1048576) (hc : ps.length ≤ c) :
  Calls Tryz.prog 96 #[.slice A ps.length c] w (YesNo (IntP ps) w):=by
 have hpos : 0 < ps.length:=List.length_pos_iff.2 hne
 obtain ⟨n,hn⟩ : ∃ n,ps.length = n + 1:=⟨ps.length - 1,by omega⟩
 have HROW:=Lib.hid hrow
 have HNUM:=Lib.hid hnum
 have HCW:=Lib.hid (fun (q : Pt) (W : World) => isWild_any q W)
 have HN:=Lib.hid hn
 have hmm:=@run_makeMap Tryz.prog
 have HB0:=Lib.hid ((Below.refl w.heap.size w).alloc (Nat.le_refl _) (.map #[] 0))
 have HS0:=Lib.hid (SetAt.made w)
 rw [hn] at hl hc
 rw [hn]
 clear hrow hnum hne hpos hn
 have hsub : ((n + 1 : Nat) : Int) - 1 = n:=by omega
 go_enter Tryz.func96,Tryz.ntmps96
 go_wp2_with fail
 clear hmm
 generalize w.alloc (.map #[] 0) = w0 at HB0 HS0 ⊢
 generalize hbm : w.heap.size = bm at HS0 ⊢
 go_loopw [15] (fun iv wr => ∃ (k : Nat) (S : List Int),iv = .int .i64 k ∧ k ≤ n ∧ Hid (Below w.heap.size w wr) ∧ Hid (SetAt wr bm k S) ∧ Hid (NumsOf ps k S) ∧ Hid (IntsP ps k)) (fun iv _ => n - (intOf iv).toNat)
 case atStart => exact ⟨0,[],rfl,Nat.zero_le _,HB0.out,HS0.out,Lib.hid (fun x => ⟨fun h => (by cases h),fun ⟨j,q,hj,_⟩ => absurd hj (Nat.not_lt_zero _)⟩),Lib.hid fun i p hi => absurd hi (Nat.not_lt_zero _)⟩
 case round =>
  obtain ⟨k,S,rfl,hk,HB,HS,HM,HI⟩:=hrel
  by_cases hlt : k < n
  ·obtain ⟨q,b0,off,hq,hmem,rfl,hb,x0,x1,x2,x3⟩:=Pt.arg_at HROW.out HB.out (show k < ps.length by rw [HN.out]; omega)
   have HQ:=Lib.hid hq
   have hs:=HB.out.size
   have HB1:=Lib.hid (HB.out.alloc hs (.cells #[.string q.dof,.string q.name,.int .i64 q.num,.slice q.at_ q.args.length q.cap] 28))
   have HS1:=Lib.hid (HS.out.next ((Below.refl wr.heap.size wr).alloc (Nat.le_refl _) (.cells #[.string q.dof,.string q.name,.int .i64 q.num,.slice q.at_ q.args.length q.cap] 28)))
   have hqn:=HNUM.out q hmem
   have hlook:=set_look Tryz.underlying165 (zeroBool _) HS1.out q.num hqn.1 hqn.2
   obtain ⟨z,hz⟩ : ∃ z,(q.dof.toList == [105,110,116]) = z:=⟨_,rfl⟩
   have HZ:=Lib.hid (show isDo [105,110,116] q.dof = z from hz)
   obtain ⟨z2,hz2⟩ : ∃ z,decide (q.num ∈ S) = z:=⟨_,rfl⟩
   have HZ2:=Lib.hid hz2
   rw [hz2] at hlook
   clear hq hmem
   cases z
   case false =>
    have HNO:=Lib.hid (show ¬IntP ps from fun h => by
     have:=(h.2.1 k q (by rw [HN.out]; exact hlt) HQ.out).1
     rw [HZ.out] at this
     cases this)
    go_wp2_with fail
    go_ret
    exact YesNo.no HNO.out HB1.out
   case true =>
    cases z2
    case true =>
     have HNO:=Lib.hid (show ¬IntP ps from fun h => by
      obtain ⟨j,p,hj,hp,he⟩:=(HM.out q.num).1 (of_decide_eq_true HZ2.out)
      exact (h.2.1 k q (by rw [HN.out]; exact hlt) HQ.out).2 j p hj hp he)
     go_wp2_with fail
     go_ret
     exact YesNo.no HNO.out HB1.out
    case false =>
     have HI2:=Lib.hid (show IntsP ps (k + 1) from HI.out.succ HQ.out HZ.out (fun j p hj hp he => (of_decide_eq_false HZ2.out) ((HM.out q.num).2 ⟨j,p,hj,hp,he⟩)))
     have HM2:=Lib.hid (HM.out.succ HQ.out)
     go_wp2_with (at_mapUpdate; go_must (refine set_put rfl _ _ _ 165 4 rfl Tryz.underlying165 rfl HS1.out (by omega) q.num hqn.1 hqn.2 rfl rfl ?_))
     intro w1 hm1 hg1
     have HB2:=Lib.hid (HB1.out.grown hg1 (by simp; omega) (fun j hj => by simp only [Option.some.injEq] at hj; omega))
     have HM1:=Lib.hid hm1
     clear hm1 hg1 hlook x0 x1 x2 x3
     go_wp2_with fail
     exact ⟨⟨k + 1,q.num :: S,by go_num,by omega,HB2.out,HM1.out,HM2.out,HI2.out⟩,by simp [intOf]; omega⟩
  ·have hk2 : k = n:=by omega
   clear hlt
   subst hk2
   by_cases h0 : 0 < k
   ·obtain ⟨q,b0,off,hq,hmem,rfl,hb,x0,x1,x2,x3⟩:=Pt.arg_at HROW.out HB.out (show k < ps.length by rw [HN.out]; omega)
    have HQ:=Lib.hid hq
    have hs:=HB.out.size
    have HIP:=Lib.hid (show (wildD q.dof = true ↔ IntP ps) from ⟨fun h => ⟨by rw [HN.out]; omega,by rw [HN.out]; exact HI.out,q,by rw [HN.out]; exact HQ.out,h⟩,fun h => by
     obtain ⟨p,hp,hpw⟩:=h.2.2
     rw [HN.out,Nat.add_sub_cancel,HQ.out] at hp
     cases hp
     exact hpw⟩)
    clear hq hmem
    go_wp2_with fail
    refine Calls.mono (HCW.out q _) ?_
    rintro e w2 ⟨rfl,hb2⟩
    have HB2:=Lib.hid (HB.out.trans (hb2.mono hs))
    clear hb2 x0 x1 x2 x3
    go_wp2_with fail
    go_ret
    exact YesNo.is HIP.out HB2.out
   ·have HNO:=Lib.hid (show ¬IntP ps from fun h => by
     have:=h.1
     rw [HN.out] at this
     omega)
    have hk0 : k = 0:=by omega
    go_wp2_with fail
    go_ret
    exact YesNo.no HNO.out HB.out
end Go.Proofs.YtjeggkfgdhepaaaGreatDoor
