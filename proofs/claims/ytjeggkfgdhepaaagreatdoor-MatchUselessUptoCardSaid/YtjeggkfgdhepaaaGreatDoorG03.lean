/- The program's test of a pattern's shape: Rule.pat, the walk. -/
import Derived.Test.YtjeggkfgdhepaaaGreatDoorG02
import Derived.Laws.BitsLemmas
import Derived.Maps.OwnSet
import Derived.Maps.RangeWalk
import Derived.Maps.Views
import Derived.StringKeys
set_option linter.unusedVariables false
set_option linter.unusedSimpArgs false
namespace Go.Proofs.YtjeggkfgdhepaaaGreatDoor
open Go.RowKit
open Go.Proofs
def Rest (p : Pt) (xs : List ByteArray) (n : ByteArray) (m : Int) (l : List Pt) (nm : ByteArray) (num cnt : Int) (xs1 : List ByteArray) : Prop:=
 p.okS xs = ((n.toList == nm.toList) && (m == num) && ((l.length : Int) == cnt) && okAll l xs1) ∧ xs ++ p.binds = xs1 ++ l.flatMap Pt.binds ∧ distinctB xs1 = true ∧ xs1.length + (l.flatMap Pt.binds).length ≤ 1048576
theorem Rest.of {d n : ByteArray} {m : Int} {A : Option Addr} {c : Nat} {l : List Pt} {xs xs1 : List ByteArray} {nm : ByteArray} {num cnt : Int} (hnode : nodeOk d n m l.length = ((n.toList == nm.toList) && (m == num) && ((l.length : Int) == cnt)))
  (hxs : xs1 = xs ++ (if isDo [118,97,114] d then [n] else [])) (hd : distinctB xs1 = true) (hlen : xs.length + (Pt.mk d n m A c l).binds.length ≤ 1048576) : Rest (.mk d n m A c l) xs n m l nm num cnt xs1:=by
 have hb : xs ++ (Pt.mk d n m A c l).binds = xs1 ++ l.flatMap Pt.binds:=by
  rw [Pt.binds_mk,hxs,List.append_assoc]
 refine ⟨?_,hb,hd, ?_⟩
 ·unfold Pt.okS okAll
  rw [hb,Pt.wellB_mk,hnode,Bool.and_assoc]
 ·have:=congrArg List.length hb
  simp only [List.length_append] at this
  omega
theorem and_one (m : Int) : bits .and .i64 m 1 = m % 2:=by
 simp only [bits,BitVec.toNat_and]
 have h1 : (BitVec.ofInt IntKind.i64.bits 1).toNat = 1:=by decide
 rw [h1,Nat.and_one_is_mod]
 have h2 : (BitVec.ofInt IntKind.i64.bits m).toNat = (m % 18446744073709551616).toNat:=by
  rw [BitVec.toNat_ofInt]
  rfl
 rw [h2]
 have h3 : ((m % 18446744073709551616).toNat % 2 : Nat) = (m % 2).toNat:=by omega
 rw [h3]
 have h4 : m % 2 = 0 ∨ m % 2 = 1:=by omega
 rcases h4 with h | h <;> rw [h] <;> decide
theorem num_bool (m : Int) : (m == bits .and .i64 m 1) = (m == 0 || m == 1):=by
 rw [and_one,Bool.eq_iff_iff]
 simp
 omega
theorem do_other {d : ByteArray} {a b : List UInt8} (h : (d.toList == a) = true) (hne : (a == b) = false) : (d.toList == b) = false:=by
 simp only [beq_iff_eq] at h
 rw [h]
 exact hne
theorem len_int (n k : Nat) : (n == k) = ((n : Int) == (k : Int)):=Bool.eq_iff_iff.2 (by simp; omega)
theorem empty_list : (⟨#[]⟩ : ByteArray).toList = []:=by decide +kernel
section
variable {d n : ByteArray} {m : Int} {len : Nat}
theorem node_plain (h : (d.toList == [97,110,121] || d.toList == [117,110,105,116] || d.toList == [110,105,108]) = true) : nodeOk d n m len = ((n.toList == (⟨#[]⟩ : ByteArray).toList) && (m == 0) && ((len : Int) == 0)):=by
 unfold nodeOk
 rw [if_pos h,len_int,empty_list]
 rfl
theorem node_var (h0 : (d.toList == [97,110,121] || d.toList == [117,110,105,116] || d.toList == [110,105,108]) = false) (h : (d.toList == [118,97,114]) = true) : nodeOk d n m len = (kindB .name n && (m == 0) && ((len : Int) == 0)):=by
 unfold nodeOk
 rw [h0,h,len_int]
 rfl
theorem node_int (h0 : (d.toList == [97,110,121] || d.toList == [117,110,105,116] || d.toList == [110,105,108]) = false) (h1 : (d.toList == [118,97,114]) = false) (h : (d.toList == [105,110,116]) = true) : nodeOk d n m len = ((n.toList == (⟨#[]⟩ : ByteArray).toList) && (m == m) && ((len : Int) == 0)):=by
 unfold nodeOk
 rw [h0,h1,h,len_int,empty_list,beq_self_eq_true,Bool.and_true]
 rfl
theorem node_bool (h0 : (d.toList == [97,110,121] || d.toList == [117,110,105,116] || d.toList == [110,105,108]) = false) (h1 : (d.toList == [118,97,114]) = false) (h2 : (d.toList == [105,110,116]) = false) (h : (d.toList == [98,111,111,108]) = true) :
  nodeOk d n m len = ((n.toList == (⟨#[]⟩ : ByteArray).toList) && (m == 0 || m == 1) && ((len : Int) == 0)):=by
 unfold nodeOk
 rw [h0,h1,h2,h,len_int,empty_list]
 rfl
theorem node_two (h0 : (d.toList == [97,110,121] || d.toList == [117,110,105,116] || d.toList == [110,105,108]) = false) (h1 : (d.toList == [118,97,114]) = false) (h2 : (d.toList == [105,110,116]) = false) (h3 : (d.toList == [98,111,111,108]) = false)
  (h : (d.toList == [112,97,105,114] || d.toList == [99,111,110,115]) = true) : nodeOk d n m len = ((n.toList == (⟨#[]⟩ : ByteArray).toList) && (m == 0) && ((len : Int) == 2)):=by
 unfold nodeOk
 rw [h0,h1,h2,h3,if_pos h,len_int len 2,empty_list]
 rfl
theorem node_con (h0 : (d.toList == [97,110,121] || d.toList == [117,110,105,116] || d.toList == [110,105,108]) = false) (h1 : (d.toList == [118,97,114]) = false) (h2 : (d.toList == [105,110,116]) = false) (h3 : (d.toList == [98,111,111,108]) = false)
  (h4 : (d.toList == [112,97,105,114] || d.toList == [99,111,110,115]) = false) (h : (d.toList == [99,111,110]) = true) : nodeOk d n m len = (kindB .con n && (m == 0) && decide (len ≤ 1)):=by
 unfold nodeOk
 rw [h0,h1,h2,h3,h4,h]
 rfl
theorem node_none (h0 : (d.toList == [97,110,121] || d.toList == [117,110,105,116] || d.toList == [110,105,108]) = false) (h1 : (d.toList == [118,97,114]) = false) (h2 : (d.toList == [105,110,116]) = false) (h3 : (d.toList == [98,111,111,108]) = false)
  (h4 : (d.toList == [112,97,105,114] || d.toList == [99,111,110,115]) = false) (h : (d.toList == [99,111,110]) = false) : nodeOk d n m len = false:=by
 unfold nodeOk
 rw [h0,h1,h2,h3,h4,h]
 rfl
end
theorem okS_node {d n : ByteArray} {m : Int} {A : Option Addr} {c : Nat} {l : List Pt} {xs : List ByteArray} (h : nodeOk d n m l.length = false) : (Pt.mk d n m A c l).okS xs = false:=by
 unfold Pt.okS
 rw [Pt.wellB_mk,h]
 rfl
theorem okS_twice {d n : ByteArray} {m : Int} {A : Option Addr} {c : Nat} {l : List Pt} {xs : List ByteArray} (hv : isDo [118,97,114] d = true) (h : n ∈ xs) : (Pt.mk d n m A c l).okS xs = false:=by
 unfold Pt.okS
 cases hd : distinctB (xs ++ (Pt.mk d n m A c l).binds) with
 | false => simp
 | true =>
  rw [Pt.binds_mk,hv,if_pos rfl,← List.append_assoc] at hd
  have h2:=distinct_prefix hd
  unfold distinctB at h2
  simp only [decide_eq_true_eq] at h2
  exact absurd rfl ((List.nodup_append.1 h2).2.2 n h n (by simp))
theorem distinct_snoc {xs : List ByteArray} {n : ByteArray} (h : distinctB xs = true) (hn : n ∉ xs) : distinctB (xs ++ [n]) = true:=by
 unfold distinctB at h ⊢
 simp only [decide_eq_true_eq] at h ⊢
 exact List.nodup_append.2 ⟨h,by simp,fun a ha b hb => by simp at hb; subst hb; rintro rfl; exact hn ha⟩
def SnapP (b5 bs : Nat) (v : Value) (W : World) : Prop:=W.cell? ⟨b5,0,none⟩ = some (.pointer (some ⟨bs,0,none⟩)) ∧ W.cell? ⟨bs,0,none⟩ = some v
structure Boxes (w wx : World) (d n : ByteArray) (m : Int) (A : Option Addr) (len c bs : Nat) : Prop where
 r : Blk wx w.heap.size #[.bool true] 113
 p : Blk wx (w.heap.size + 1) #[.string d,.string n,.int .i64 m,.slice A len c] 28
 s : Blk wx (w.heap.size + 2) #[.pointer (some ⟨bs,0,none⟩)] 155
theorem Boxes.next {w wx wy : World} {d n : ByteArray} {m : Int} {A : Option Addr} {len c bs : Nat} (h : Boxes w wx d n m A len c bs) (hb : Below wx.heap.size wx wy) : Boxes w wy d n m A len c bs:=⟨h.r.below hb h.r.lt,h.p.below hb h.p.lt,h.s.below hb h.s.lt⟩
set_option maxRecDepth 100000 in
set_option maxHeartbeats 4000000 in
theorem pat_ok (B : Nat) : ∀ p : Pt,PatOk B p:=by
 refine Pt.induct fun d n m A c l ih w bs v xs hin hB he hs hlen hdis => ?_
 obtain ⟨hd,hn,hm,hl,-,hrow,hall⟩:=Pt.In_mk.1 hin
 have HR:=Lib.hid hrow
 have HA:=Lib.hid hall
 have IH:=Lib.hid ih
 have HE:=Lib.hid he
 have HS:=Lib.hid hs
 have HLEN:=Lib.hid hlen
 have HDIS:=Lib.hid hdis
 have hbw:=hs.blk.lt
 clear hin hrow hall ih he hs hlen hdis
 have HP : Hid (∃ p : Pt,p = .mk d n m A c l):=Lib.hid ⟨_,rfl⟩
 unfold Pt.val
 simp only [Pt.dof,Pt.name,Pt.num,Pt.at_,Pt.cap,Pt.args]
 go_enter Tryz.func113,Tryz.ntmps113
 go_upto_block 0 with (fail)
 go_cut [7,8,9] (fun cv nv mv wx => ∃ (nm : ByteArray) (num cnt : Int) (xs1 : List ByteArray) (v1 : Value),nv = .string nm ∧ mv = .int .i64 num ∧ cv = .int .i64 cnt ∧ Hid (Rest (.mk d n m A c l) xs n m l nm num cnt xs1) ∧ Hid (Fr (seenS bs v) w wx) ∧ Hid (Seen B bs wx v1 xs1) ∧ Hid (Boxes w wx d n m A l.length c bs) ∧ Hid (∀ k,v1.ownBlock = some k → v.ownBlock = some k ∨ w.heap.size ≤ k) ∧ w.heap.size + 3 ≤ wx.heap.size)
 case first =>
  have hbelow : Hid (Below w.heap.size w (((w.alloc (.cells #[.bool true] 113)).alloc (.cells #[.string d,.string n,.int .i64 m,.slice A l.length c] 28)).alloc (.cells #[.pointer (some ⟨bs,0,none⟩)] 155))):=Lib.hid ((((Below.refl _ _).alloc (Nat.le_refl _) _).alloc (by simp) _).alloc (by simp; omega) _)
  have hboxes : Hid (Boxes w (((w.alloc (.cells #[.bool true] 113)).alloc (.cells #[.string d,.string n,.int .i64 m,.slice A l.length c] 28)).alloc (.cells #[.pointer (some ⟨bs,0,none⟩)] 155)) d n m A l.length c bs):=Lib.hid ⟨((Blk.new w _ _).alloc _).alloc _,(Blk.new' _ _ _ _ (by simp)).alloc _,Blk.new' _ _ _ _ (by simp)⟩
  have HMk : Hid (∀ (nm : ByteArray) (num cnt : Int),Rest (.mk d n m A c l) xs n m l nm num cnt xs → ∃ (nm' : ByteArray) (num' cnt' : Int) (xs1 : List ByteArray) (v1 : Value),Value.string nm = .string nm' ∧ Value.int .i64 num = .int .i64 num' ∧ Value.int .i64 cnt = .int .i64 cnt' ∧ Hid (Rest (.mk d n m A c l) xs n m l nm' num' cnt' xs1) ∧
    Hid (Fr (seenS bs v) w (((w.alloc (.cells #[.bool true] 113)).alloc (.cells #[.string d,.string n,.int .i64 m,.slice A l.length c] 28)).alloc (.cells #[.pointer (some ⟨bs,0,none⟩)] 155))) ∧ Hid (Seen B bs (((w.alloc (.cells #[.bool true] 113)).alloc (.cells #[.string d,.string n,.int .i64 m,.slice A l.length c] 28)).alloc (.cells #[.pointer (some ⟨bs,0,none⟩)] 155)) v1 xs1) ∧
    Hid (Boxes w (((w.alloc (.cells #[.bool true] 113)).alloc (.cells #[.string d,.string n,.int .i64 m,.slice A l.length c] 28)).alloc (.cells #[.pointer (some ⟨bs,0,none⟩)] 155)) d n m A l.length c bs) ∧ Hid (∀ k,v1.ownBlock = some k → v.ownBlock = some k ∨ w.heap.size ≤ k) ∧ w.heap.size + 3 ≤ (((w.alloc (.cells #[.bool true] 113)).alloc (.cells #[.string d,.string n,.int .i64 m,.slice A l.length c] 28)).alloc (.cells #[.pointer (some ⟨bs,0,none⟩)] 155)).heap.size):=
   Lib.hid fun nm num cnt h => ⟨nm,num,cnt,xs,v,rfl,rfl,rfl,h,fr_of_below hbelow.out _,HS.out.next hbelow.out,hboxes.out,fun k hk => .inl hk,by simp⟩
  have HNo : Hid (∀ e w',Below w.heap.size w w' → Pt.okS (.mk d n m A c l) xs = false → e = .returned (.bool false) → PatPost B bs w v xs (.mk d n m A c l) e w'):=Lib.hid fun e w' h h2 h3 => ⟨fr_of_below h _,.inr ⟨h2,h3⟩⟩
  obtain ⟨tany,hany⟩ : ∃ t,(d.toList == [97,110,121]) = t:=⟨_,rfl⟩
  cases tany
  case true =>
   go_wp2_with fail
   go_meet
   exact HMk.out ⟨#[]⟩ 0 0 (Rest.of (node_plain (by rw [hany]; rfl)) (by unfold isDo; rw [do_other hany (by decide)]; simp) HDIS.out HLEN.out)
  obtain ⟨tunit,hunit⟩ : ∃ t,(d.toList == [117,110,105,116]) = t:=⟨_,rfl⟩
  cases tunit
  case true =>
   go_wp2_with fail
   go_meet
   exact HMk.out ⟨#[]⟩ 0 0 (Rest.of (node_plain (by rw [hany,hunit]; rfl)) (by unfold isDo; rw [do_other hunit (by decide)]; simp) HDIS.out HLEN.out)
  obtain ⟨tnil,hnil⟩ : ∃ t,(d.toList == [110,105,108]) = t:=⟨_,rfl⟩
  cases tnil
  case true =>
   go_wp2_with fail
   go_meet
   exact HMk.out ⟨#[]⟩ 0 0 (Rest.of (node_plain (by rw [hany,hunit,hnil]; rfl)) (by unfold isDo; rw [do_other hnil (by decide)]; simp) HDIS.out HLEN.out)
  obtain ⟨tvar,hvar⟩ : ∃ t,(d.toList == [118,97,114]) = t:=⟨_,rfl⟩
  cases tvar
  case true =>
   have HV:=Lib.hid hvar
   have hnode:=node_var (n:=n) (m:=m) (len:=l.length) (by rw [hany,hunit,hnil]; rfl) hvar
   obtain ⟨nb,hnb⟩ : ∃ nb,kindB .name n = nb:=⟨_,rfl⟩
   have hbi:=binder_any n (by omega)
   rw [hnb] at hbi hnode
   have HBI:=Lib.hid hbi
   have HND:=Lib.hid hnode
   clear hbi hnode hnb
   cases nb
   ·go_wp2_with fail
    refine Calls.mono (HBI.out _ (HE.out.next hbelow.out)) ?_
    rintro e w1 ⟨rfl,hb1⟩
    have HB1:=Lib.hid (hbelow.out.trans (hb1.mono (by simp; omega)))
    clear hb1
    go_wp2_with fail
    go_ret
    exact HNo.out _ _ HB1.out (okS_node (by rw [HND.out]; rfl)) rfl
   ·go_wp2_with fail
    refine Calls.mono (HBI.out _ (HE.out.next hbelow.out)) ?_
    rintro e w1 ⟨rfl,hb1⟩
    have hbx1:=hboxes.out.next hb1
    have hs1:=(HS.out.next hbelow.out).next hb1
    have hsz1 : w.heap.size + 3 ≤ w1.heap.size:=by have:=hb1.size; simpa using this
    have HB1:=Lib.hid (hbelow.out.trans (hb1.mono (by simp; omega)))
    have q0:=hbx1.s.one
    have y0:=hs1.blk.one
    have y1:=hs1.blk.free 0
    have yl:=hs1.blk.lt
    obtain ⟨p0,p1,p2,p3⟩:=hbx1.p.four
    have hcon:=contains_texts hs1.row (by have:=HLEN.out; omega) n
    obtain ⟨cb,hcb⟩ : ∃ cb,Lib.containsS xs n = cb:=⟨_,rfl⟩
    rw [hcb] at hcon
    have HCON:=Lib.hid hcon
    have HCB:=Lib.hid hcb
    have HBX1:=Lib.hid hbx1
    have HS1:=Lib.hid hs1
    clear hb1 hbx1 hs1 hcon hcb
    cases cb
    ·have hxl : xs.length + 1 ≤ 1048576:=by
      have:=HLEN.out
      rw [Pt.binds_mk,show isDo [118,97,114] d = true from HV.out,if_pos rfl] at this
      simp at this
      omega
     go_wp2_with fail
     refine Calls.mono HCON.out ?_
     rintro e w2 ⟨rfl,rfl⟩
     obtain ⟨i0,hi,hz0,hz1,hz2⟩:=info_parts infoStr
     obtain ⟨Av,cv,hveq,hrw⟩:=HS1.out.row
     have HRW:=Lib.hid hrw
     have HVE:=Lib.hid hveq
     have hSS : SnapP (w.heap.size + 2) bs v w1.drew:=⟨q0,y0⟩
     have FOWN : Hid ((w1.alloc (.cells #[.string n] 9)).drew.ownsRow B 9 1 v xs.length (xs.map Value.string)):=by rw [hveq]; exact World.ownsRow.alloc hrw _
     have FNEW : Hid (∀ j u,[Value.string n][j]? = some u → (w1.alloc (.cells #[.string n] 9)).drew.cell? ((⟨w1.heap.size,0,none⟩ : Addr).add j) = some u):=cell_one_new w1 _ _
     have FS2 : Hid (SnapP (w.heap.size + 2) bs v (w1.alloc (.cells #[.string n] 9)).drew):=⟨(HBX1.out.s.alloc _).cell 0,(HS1.out.blk.alloc _).cell 0⟩
     have hBw1 : B ≤ w1.heap.size:=Nat.le_trans HS1.out.base (Nat.le_of_lt HS1.out.blk.lt)
     clear hveq hrw q0 y0
     go_wp2_with fail
     refine region_mid (SnapP (w.heap.size + 2) bs v) 5 7 (by kernel_rfl) (by kernel_rfl) hSS ?_
     simp only [List.take_succ_cons,List.take_zero,List.drop_succ_cons,List.drop_zero]
     clear hSS
     repeat
      refine wpHeld_want ?_ (by rfl) (fun W hW => ?_) ?_
      rotate_left
      ·unfold SnapP at hW
       go_simp
       try with_reducible rfl
      simp only [Act.put,List.setIfInBounds_toArray,List.set_cons_zero,List.set_cons_succ]
     refine wpHeld_nil ?_
     refine wpKeep_step rfl (fun K hK => ?_)
     go_simp
     refine hK _ _ FS2.out ?_
     clear hK K
     refine wpKeep_step rfl (fun K hK => ?_)
     refine wp_append_lies _ (.tmp 34) (.tmp 36) 53 rfl B 9 i0 _ 1 16 Tryz.underlying53 hi hz0 hz1 hz2 rfl (by decide) v xs.length (xs.map Value.string) (by simp [Act.eval,Act.put]) FOWN.out ⟨w1.heap.size,0,none⟩ 1 1 [.string n] (by simp [Act.eval,Act.put]) rfl FNEW.out (by simp [Value.oneCell']) (by omega) (by unfold maxLen; omega) (by omega) (by simp; omega) (w1.heap.size + 1) (by simp) ?_
     intro g2 c2 w2 hown hgrow hat hlt2
     have hf2 : Fr (fun j => v.ownBlock = some j) w1 w2:=Fr.grown (((Fr.refl _ _).alloc _).drew) hgrow (fun k hk => .inl hk)
     have hnb : ¬ v.ownBlock = some bs:=HS1.out.row.ne HS1.out.blk (by decide)
     have kr:=hf2.blk HBX1.out.r (HS1.out.row.ne HBX1.out.r (by decide))
     have kp:=hf2.blk HBX1.out.p (HS1.out.row.ne HBX1.out.p (by decide))
     have ks:=hf2.blk HBX1.out.s (HS1.out.row.ne HBX1.out.s (by decide))
     have kb:=hf2.blk HS1.out.blk hnb
     have x6 : w2.cell? ⟨w.heap.size + 2,0,none⟩ = some (.pointer (some ⟨bs,0,none⟩)):=ks.one
     have xf : w2.cell? ⟨bs,0,none⟩ = some v:=kb.one
     refine hK _ _ ⟨x6,xf⟩ ?_
     clear hK K
     refine wpKeep_rest _ _ _ _ (by omega) ?_
     have r1:=kb.free 0
     have r2:=kb.lt
     have hrest : Rest (.mk d n m A c l) xs n m l n 0 0 (xs ++ [n]):=Rest.of (by rw [HND.out,beq_self_eq_true]) (by rw [show isDo [118,97,114] d = true from HV.out,if_pos rfl]) (distinct_snoc HDIS.out (fun hm => by
      have:=(Lib.containsS_iff xs n).2 hm
      rw [HCB.out] at this
      cases this)) HLEN.out
     have hne2 : bs ≠ g2:=by
      rintro rfl
      rcases hat with h5 | h5
      ·exact hnb h5
      ·omega
     have hrel : ∃ (nm' : ByteArray) (num' cnt' : Int) (xs1 : List ByteArray) (v1 : Value),Value.string n = .string nm' ∧ Value.int .i64 0 = .int .i64 num' ∧ Value.int .i64 0 = .int .i64 cnt' ∧ Hid (Rest (.mk d n m A c l) xs n m l nm' num' cnt' xs1) ∧
       Hid (Fr (seenS bs v) w (w2.setCell ⟨bs,0,none⟩ (.slice (some ⟨g2,0,none⟩) (xs.length + 1) c2))) ∧ Hid (Seen B bs (w2.setCell ⟨bs,0,none⟩ (.slice (some ⟨g2,0,none⟩) (xs.length + 1) c2)) v1 xs1) ∧
       Hid (Boxes w (w2.setCell ⟨bs,0,none⟩ (.slice (some ⟨g2,0,none⟩) (xs.length + 1) c2)) d n m A l.length c bs) ∧ Hid (∀ k,v1.ownBlock = some k → v.ownBlock = some k ∨ w.heap.size ≤ k) ∧ w.heap.size + 3 ≤ (w2.setCell ⟨bs,0,none⟩ (.slice (some ⟨g2,0,none⟩) (xs.length + 1) c2)).heap.size:=by
      refine ⟨n,0,0,xs ++ [n],.slice (some ⟨g2,0,none⟩) (xs.length + 1) c2,rfl,rfl,rfl,hrest, ?_, ?_, ?_, ?_, ?_⟩
      ·exact Fr.setCell ((fr_of_below HB1.out _).then hf2 fun i hi hh => .inr hh) (.inl (.inl rfl)) _
      ·refine ⟨HS1.out.base,(kb.set 0 _).cast (by simp),some ⟨g2,0,none⟩,c2,by simp, ?_⟩
       have hr:=row_stays (w1:=w2.setCell ⟨bs,0,none⟩ (.slice (some ⟨g2,0,none⟩) (xs.length + 1) c2)) hown (fun k hk => by
        simp only [Value.ownBlock,Option.some.injEq] at hk
        subst hk
        exact Below.heap_setCell _ _ _ _ (by simpa using hne2.symm))
       simpa using hr
      ·exact ⟨kr.far (by simp; omega) _,kp.far (by simp; omega) _,ks.far (by simp; omega) _⟩
      ·intro k hk
       simp only [Value.ownBlock,Option.some.injEq] at hk
       subst hk
       rcases hat with h5 | h5
       ·exact .inl h5
       ·exact .inr (by omega)
      ·have:=hf2.size
       simp [World.setCell]
       omega
     have HREL:=Lib.hid hrel
     clear hrel hrest hown hgrow hat hf2 hnb kr kp ks kb hne2
     go_wp2_with fail
     refine NoPanic.normal ?_
     go_wp2_with fail
     go_meet
     exact HREL.out
    ·go_wp2_with fail
     refine Calls.mono HCON.out ?_
     rintro e w2 ⟨rfl,rfl⟩
     go_wp2_with fail
     go_ret
     exact HNo.out _ _ HB1.out (okS_twice HV.out ((Lib.containsS_iff xs n).1 HCB.out)) rfl
  obtain ⟨tint,hint⟩ : ∃ t,(d.toList == [105,110,116]) = t:=⟨_,rfl⟩
  cases tint
  case true =>
   go_wp2_with fail
   go_meet
   exact HMk.out ⟨#[]⟩ m 0 (Rest.of (node_int (by rw [hany,hunit,hnil]; rfl) hvar hint) (by unfold isDo; rw [hvar]; simp) HDIS.out HLEN.out)
  obtain ⟨tbool,hbool⟩ : ∃ t,(d.toList == [98,111,111,108]) = t:=⟨_,rfl⟩
  cases tbool
  case true =>
   go_wp2_with fail
   go_meet
   exact HMk.out ⟨#[]⟩ _ 0 (Rest.of (by rw [num_bool]; exact node_bool (by rw [hany,hunit,hnil]; rfl) hvar hint hbool) (by unfold isDo; rw [hvar]; simp) HDIS.out HLEN.out)
  obtain ⟨tpair,hpair⟩ : ∃ t,(d.toList == [112,97,105,114]) = t:=⟨_,rfl⟩
  cases tpair
  case true =>
   go_wp2_with fail
   go_meet
   exact HMk.out ⟨#[]⟩ 0 2 (Rest.of (node_two (by rw [hany,hunit,hnil]; rfl) hvar hint hbool (by rw [hpair]; rfl)) (by unfold isDo; rw [hvar]; simp) HDIS.out HLEN.out)
  obtain ⟨tcons,hcons⟩ : ∃ t,(d.toList == [99,111,110,115]) = t:=⟨_,rfl⟩
  cases tcons
  case true =>
   go_wp2_with fail
   go_meet
   exact HMk.out ⟨#[]⟩ 0 2 (Rest.of (node_two (by rw [hany,hunit,hnil]; rfl) hvar hint hbool (by rw [hpair,hcons]; rfl)) (by unfold isDo; rw [hvar]; simp) HDIS.out HLEN.out)
  obtain ⟨tcon,hcon⟩ : ∃ t,(d.toList == [99,111,110]) = t:=⟨_,rfl⟩
  cases tcon
  case true =>
   have hnode:=node_con (n:=n) (m:=m) (len:=l.length) (by rw [hany,hunit,hnil]; rfl) hvar hint hbool (by rw [hpair,hcons]; rfl) hcon
   obtain ⟨nb,hnb⟩ : ∃ nb,kindB .con n = nb:=⟨_,rfl⟩
   have hbi:=is_con n (by omega)
   rw [hnb] at hbi hnode
   have HBI:=Lib.hid hbi
   have HND:=Lib.hid hnode
   have HV:=Lib.hid hvar
   clear hbi hnode hnb
   go_wp2_with fail
   go_quiet (fail)
   go_wp2_with fail
   refine Calls.mono (HBI.out _ (HE.out.next (below_drewN hbelow.out _))) ?_
   rintro e w1 ⟨rfl,hb1⟩
   have hb3:=hb1.mono (B':=w.heap.size) (by simp; omega)
   have hb2:=(below_drewN hbelow.out _).trans hb3
   have HB1:=Lib.hid hb2
   have HBX1 : Hid (Boxes w w1 d n m A l.length c bs):=Lib.hid (Boxes.next ⟨hboxes.out.r.drewN _,hboxes.out.p.drewN _,hboxes.out.s.drewN _⟩ hb1)
   have hsz1 : w.heap.size + 3 ≤ w1.heap.size:=by have:=hb1.size; simpa using this
   clear hb1 hb2 hb3
   cases nb
   ·go_wp2_with fail
    go_ret
    exact HNo.out _ _ HB1.out (okS_node (by rw [HND.out]; rfl)) rfl
   ·go_wp2_with fail
    go_meet
    refine ⟨n,0,_,xs,v,rfl,rfl,rfl,Rest.of ?_ (by unfold isDo; rw [HV.out]; simp) HDIS.out HLEN.out,fr_of_below HB1.out _,HS.out.next HB1.out,HBX1.out,fun k hk => .inl hk,hsz1⟩
    rw [HND.out,beq_self_eq_true,Bool.true_and]
    congr 1
    rw [Bool.eq_iff_iff]
    simp only [decide_eq_true_eq,beq_iff_eq]
    omega
  go_wp2_with fail
  go_ret
  exact HNo.out _ _ hbelow.out (okS_node (node_none (by rw [hany,hunit,hnil]; rfl) hvar hint hbool (by rw [hpair,hcons]; rfl) hcon)) rfl
 case rest =>
  obtain ⟨nm,num,cnt,xs1,v1,rfl,rfl,rfl,HRest,HF,HS1,HBX,HO1,hsz⟩:=hcut
  obtain ⟨p0,p1,p2,p3⟩:=HBX.out.p.four
  have r0:=HBX.out.r.one
  have s0:=HBX.out.s.one
  obtain ⟨b1,h1⟩ : ∃ b,(n.toList == nm.toList) = !b:=⟨!(n.toList == nm.toList),by simp⟩
  obtain ⟨b2,h2⟩ : ∃ b,(m == num) = !b:=⟨!(m == num),by simp⟩
  obtain ⟨b3,h3⟩ : ∃ b,((l.length : Int) == cnt) = !b:=⟨!((l.length : Int) == cnt),by simp⟩
  have hres:=HRest.out.1
  rw [h1,h2,h3] at hres
  have HRes:=Lib.hid hres
  clear hres
  have hHF : Hid (∀ e w',Fr (seenS bs v) w w' → Pt.okS (.mk d n m A c l) xs = false → e = .returned (.bool false) → PatPost B bs w v xs (.mk d n m A c l) e w'):=Lib.hid fun e w' h h2 h3 => ⟨h,.inr ⟨h2,h3⟩⟩
  have hHT : Hid (∀ e w',Fr (seenS bs v) w w' → Pt.okS (.mk d n m A c l) xs = true → e = .returned (.bool true) → (∃ v',Seen B bs w' v' (xs ++ (Pt.mk d n m A c l).binds) ∧ ∀ k,v'.ownBlock = some k → v.ownBlock = some k ∨ w.heap.size ≤ k) → PatPost B bs w v xs (.mk d n m A c l) e w'):=Lib.hid fun e w' h h2 h3 h4 => ⟨h,.inl ⟨h2,h3,h4⟩⟩
  rcases b1 with _ | _
  rcases b2 with _ | _
  rcases b3 with _ | _
  all_goals
   simp only [Bool.not_false,Bool.not_true,Bool.true_and,Bool.false_and,Bool.and_false] at h1 h2 h3 HRes
   go_wp2_with fail
  rotate_left
  all_goals try
   go_ret
   exact hHF.out _ _ HF.out HRes.out rfl
  clear h1 h2 h3
  have hbx:=HBX.out.r.lt
  have hbsw:=HS1.out.blk.lt
  have hnr : ¬ seenS bs v1 w.heap.size:=by
   rintro (h | h)
   ·omega
   ·exact HS1.out.row.ne HBX.out.r (by decide) h
  have hnp : ¬ seenS bs v1 (w.heap.size + 1):=by
   rintro (h | h)
   ·omega
   ·exact HS1.out.row.ne HBX.out.p (by decide) h
  have hns : ¬ seenS bs v1 (w.heap.size + 2):=by
   rintro (h | h)
   ·omega
   ·exact HS1.out.row.ne HBX.out.s (by decide) h
  have hge : ∀ k,seenS bs v1 k → B ≤ k:=fun k hk => HS1.out.ge hk
  have hBw : B ≤ w.heap.size:=Nat.le_trans HS1.out.base (Nat.le_of_lt hbw)
  have hfb : Below B w wc:=HF.out.below hBw fun k hk => by
   rcases hk with rfl | hk
   ·exact HS1.out.base
   ·exact (HS.out.row.own hk).1
  have hcont:=containsPat 136 (enters_of Tryz.func136 (by kernel_rfl) rfl) #[.pointer (some ⟨w.heap.size,0,none⟩),.pointer (some ⟨w.heap.size + 2,0,none⟩)] l A c wc
   (fun k W => Fr (seenS bs v1) wc W ∧ okAll (l.take k) xs1 = true ∧ ∃ v',Seen B bs W v' (bindsTo xs1 l k) ∧ ∀ j,v'.ownBlock = some j → v1.ownBlock = some j ∨ wc.heap.size ≤ j)
   (fun k W => Fr (seenS bs v1) wc W ∧ okAll l xs1 = false) hl
   (fun k W h => ⟨B,(HR.out.keep (hfb.trans (h.1.below (by omega) hge)))⟩)
   ⟨Fr.refl _ _,okAll_zero HRest.out.2.2.1,v1,by rw [bindsTo_zero]; exact HS1.out,fun j hj => .inl hj⟩
   (fun k W q hq ⟨hf,hok,v',hs',hown'⟩ => by
    have hk:=List.mem_of_getElem? hq
    have hWw : Below B w W:=hfb.trans (hf.below (by omega) hge)
    have hlen : (bindsTo xs1 l k).length + q.binds.length ≤ 1048576:=Nat.le_trans (bindsTo_bound hq) (by rw [List.length_append]; exact HRest.out.2.2.2)
    have hdd : distinctB (bindsTo xs1 l k) = true:=by
     have h:=hok
     unfold okAll at h
     simp only [Bool.and_eq_true] at h
     exact h.2
    refine (pat_closure B q (IH.out q hk) w.heap.size (w.heap.size + 2) bs W v' (bindsTo xs1 l k) (Pt.In.keep hWw _ (HA.out q hk)) hB (HE.out.keep hWw hB) hs' hlen hdd (hf.blk HBX.out.r hnr) (hf.blk HBX.out.s hns)).mono ?_
    rintro e W' ⟨hf2,h⟩
    have hf3 : Fr (seenS bs v1) wc W':=hf.then hf2 fun i hi hh => by
     rcases hh with rfl | hh
     ·exact .inl rfl
     ·rcases hown' i hh with h | h
      ·exact .inr h
      ·omega
    rcases h with ⟨ho,rfl,v2,hs2,hown2⟩ | ⟨ho,rfl⟩
    ·refine .inr ⟨rfl,hf3,okAll_succ hq hok ho,v2,by rw [bindsTo_succ hq]; exact hs2,fun j hj => ?_⟩
     rcases hown2 j hj with h | h
     ·exact hown' j h
     ·exact .inr (Nat.le_trans hf.size h)
    ·exact .inl ⟨rfl,hf3,okAll_fail hq ho⟩)
  have HCONT:=Lib.hid hcont
  clear hcont hnr hnp hns hge hfb
  refine Calls.mono HCONT.out ?_
  rintro e w1 (⟨i,hi,rfl,hf,hno⟩ | ⟨rfl,hf,hyes,v',hs',hown'⟩)
  ·have HF1:=Lib.hid hf
   have HN:=Lib.hid hno
   clear hf hno
   go_wp2_with fail
   go_ret
   refine hHF.out _ _ (HF.out.then HF1.out fun i hi hh => ?_) (by rw [HRes.out,HN.out]) rfl
   rcases hh with rfl | hh
   ·exact .inl rfl
   ·rcases HO1.out i hh with h | h
    ·exact .inr h
    ·omega
  ·have HF1:=Lib.hid hf
   have HN:=Lib.hid hyes
   have HS2:=Lib.hid hs'
   have HO2:=Lib.hid hown'
   clear hf hyes hs' hown'
   go_wp2_with fail
   go_ret
   refine hHT.out _ _ (HF.out.then HF1.out fun i hi hh => ?_) (by rw [HRes.out]; have:=HN.out; rw [List.take_length] at this; exact this) rfl ⟨v', ?_,fun k hk => ?_⟩
   ·rcases hh with rfl | hh
    ·exact .inl rfl
    ·rcases HO1.out i hh with h | h
     ·exact .inr h
     ·omega
   ·rw [HRest.out.2.1,← bindsTo_all]
    exact HS2.out
   ·rcases HO2.out k hk with h | h
    ·exact HO1.out k h
    ·exact .inr (Nat.le_trans (by omega) h)
end Go.Proofs.YtjeggkfgdhepaaaGreatDoor

namespace Go.Proofs.YtjeggkfgdhepaaaGreatDoor
open Go.RowKit
open Go.Proofs
section
variable {P : Program} {ops : Array Oper} {Q : Exit → Act → World → Prop} {md : Region.Mode} {S : World → Prop}
def Region.waitsT (md : Region.Mode) (ops : Array Oper) : Nat → Nat → Nat → Bool
 | 0,_,_ => false
 | n + 1,j,i => match ops[j]? with
  | none => false
  | some oj => oj.after.any fun e => Region.binds md e && (e.on == i || Region.waitsT md ops n e.on i)
def Closed (md : Region.Mode) (ops : Array Oper) (listed : Array Bool) : Prop:=∀ j oj,ops[j]? = some oj → listed.getD j true = true → ∀ e ∈ oj.after,Region.binds md e = true → listed.getD e.on false = true
theorem waitsT_spec {listed : Array Bool} (hc : Closed md ops listed) {i : Nat} : ∀ (n j : Nat) (oj : Oper),ops[j]? = some oj → Region.waitsT md ops n j i = true → (∀ e ∈ oj.after,Region.binds md e = true → listed.getD e.on false = true) → listed.getD i false = true
 | 0,_,_,_,h,_ => by simp [Region.waitsT] at h
 | n + 1,j,oj,hj,h,hd => by
  simp only [Region.waitsT,hj] at h
  obtain ⟨e,he,hb⟩:=Array.any_eq_true'.1 h
  simp only [Bool.and_eq_true,Bool.or_eq_true,beq_iff_eq] at hb
  have hl:=hd e he hb.1
  rcases hb.2 with h2 | h2
  ·rw [← h2]; exact hl
  ·cases ho : ops[e.on]? with
   | none =>
    cases n with
    | zero => simp [Region.waitsT] at h2
    | succ n => simp [Region.waitsT,ho] at h2
   | some o2 =>
    refine waitsT_spec hc n e.on o2 ho h2 (hc e.on o2 ho ?_)
    unfold Array.getD at hl ⊢
    split at hl
    ·rename_i hlt; simp only [hlt,dif_pos]; exact hl
    ·cases hl
theorem closed_set {listed : Array Bool} {j : Nat} (hc : Closed md ops listed) (hj : j ∈ Region.ready md ops listed) : Closed md ops (listed.setIfInBounds j true):=by
 obtain ⟨hju,oj,hoj,hd⟩:=mem_ready.1 hj
 have hlt : j < listed.size:=by
  unfold Array.getD at hju
  split at hju
  ·assumption
  ·cases hju
 have hup : ∀ k,listed.getD k false = true → (listed.setIfInBounds j true).getD k false = true:=fun k hk => by
  by_cases hjk : j = k
  ·subst hjk; simp [Array.getD,hlt]
  ·rw [getD_set_ne false hjk]; exact hk
 intro k ok hok hk e he hb
 by_cases hjk : j = k
 ·subst hjk
  rw [hoj] at hok
  simp only [Option.some.injEq] at hok
  subst hok
  exact hup _ (hd e he hb)
 ·rw [getD_set_ne true hjk] at hk
  exact hup _ (hc k ok hok hk e he hb)
theorem wpAnyM_firstT {m i : Nat} {oi : Oper} {v : Value} (hi : ops[i]? = some oi) (hsel : ∀ (j : Nat) (o : Oper) cs b,ops[j]? = some o → o.op ≠ .select cs b)
  (hQ : ∀ c a w,Q (.panic c) (a.put oi.dst v) w → Q (.panic c) a w) (hm : ∀ j,m ≤ j → j < ops.size → Region.waitsT md ops ops.size j i = true) :
  ∀ (fuel : Nat) (listed : Array Bool) (a : Act) (w : World),Closed md ops listed →
   (∀ j oj,ops[j]? = some oj → j ≠ i → listed.getD j true = false → (∀ e ∈ oj.after,Region.binds md e = true → e.on ≠ i) → oi.apart ops oj = true) →
   i ∈ Region.ready md ops listed → YieldsIf P ops S oi v a → S w →
   wpAnyM P md ops Q S m fuel (listed.setIfInBounds i true) (a.put oi.dst v) w → wpAnyM P md ops Q S m (fuel + 1) listed a w:=by
 intro fuel
 induction fuel with
 | zero =>
  intro listed a w _ _ hr hy hS H
  refine ⟨fun h => (by rw [h] at hr; cases hr),fun j hj => ?_⟩
  by_cases hji : j = i
  ·subst hji; exact hy.wpOp hi hS ⟨fun _ => hS,H⟩
  ·have:=ready_mono hj hji
   rw [H.1] at this
   cases this
 | succ fuel ih =>
  intro listed a w hc hfree hr hy hS H
  refine ⟨fun h => (by rw [h] at hr; cases hr),fun j hj => ?_⟩
  by_cases hji : j = i
  ·subst hji; exact hy.wpOp hi hS ⟨fun _ => hS,H⟩
  ·have h1:=H.2 j (ready_mono hj hji)
   obtain ⟨hjun,oj,hoj,hall⟩:=mem_ready.1 hj
   have hnot : ∀ e ∈ oj.after,Region.binds md e = true → e.on ≠ i:=fun e he hb heq => by
    have h1:=hall e he hb
    have h0:=(mem_ready.1 hr).1
    rw [heq,getD_both h0] at h1
    cases h1
   have hjm : j < m:=by
    rcases Nat.lt_or_ge j m with h | h
    ·exact h
    ·have h2:=waitsT_spec hc _ j oj hoj (hm j h (Array.getElem?_eq_some_iff.1 hoj).1) hall
     have h0:=(mem_ready.1 hr).1
     rw [getD_both h0] at h2
     cases h2
   have h2:=wpOp_putIf hoj (hfree j oj hoj hji hjun hnot) (fun cs b => hsel i oi cs b hi) (fun cs b => hsel j oj cs b hoj) hQ hy h1
   have hfree' : ∀ k ok,ops[k]? = some ok → k ≠ i → (listed.setIfInBounds j true).getD k true = false →
     (∀ e ∈ ok.after,Region.binds md e = true → e.on ≠ i) → oi.apart ops ok = true:=fun k ok hk hki hun hno => by
    refine hfree k ok hk hki ?_ hno
    by_cases hjk : j = k
    ·subst hjk; exact hjun
    ·rw [getD_set_ne true hjk] at hun; exact hun
   refine wpOp_mono (fun a' w' h3 => ⟨h3.2.1,ih (listed.setIfInBounds j true) a' w' (closed_set hc hj) hfree' (ready_mono hr (Ne.symm hji)) h3.1 (h3.2.1 hjm) ?_⟩) h2
   rw [Array.setIfInBounds_comm _ _ hji]
   exact h3.2.2
def Region.seqL (md : Region.Mode) (ops : Array Oper) : List Nat → Array Bool → Bool
 | [],listed => (Region.ready md ops listed).isEmpty
 | k :: ks,listed => decide (Region.ready md ops listed = [k]) && Region.seqL md ops ks (listed.setIfInBounds k true)
def Region.headL (md : Region.Mode) (ops : Array Oper) (tl : List Nat) : List Nat → Array Bool → Bool
 | [],listed => Region.seqL md ops tl listed
 | k :: ks,listed => (Region.ready md ops listed).contains k && Region.free md ops listed k && Region.headL md ops tl ks (listed.setIfInBounds k true)
def picks (l : List Oper) (ks : List Nat) : List Oper:=ks.filterMap fun k => l[k]?
def picksN (l : List Oper) (ks : List Nat) : List (Nat × Oper):=ks.filterMap fun k => (l[k]?).map fun o => (k,o)
def wpKeepL (P : Program) (ops : Array Oper) (Q : Exit → Act → World → Prop) (S : World → Prop) (m : Nat) : List (Nat × Oper) → Act → World → Prop
 | [],a,w => Q .normal a w
 | (k,o) :: rest,a,w => (fun K : Act → World → Prop => if Region.wanted o (yielded ops a.tmps) then o.wp P a w K Q ∨ (o.asks P a w ∧ LetsOut Q) else K (a.put o.dst undef) w) fun a' w' => (k < m → S w') ∧ wpKeepL P ops Q S m rest a' w'
theorem wpAnyM_of_seqL {m : Nat} {l : List Oper} (hl : ops = l.toArray) : ∀ (ks : List Nat) (listed : Array Bool) (a : Act) (w : World),Region.seqL md ops ks listed = true → wpKeepL P ops Q S m (picksN l ks) a w → wpAnyM P md ops Q S m ks.length listed a w
 | [],listed,a,w,hB,h => ⟨by simpa [Region.seqL] using hB,h⟩
 | k :: ks,listed,a,w,hB,h => by
  simp only [Region.seqL,Bool.and_eq_true,decide_eq_true_eq] at hB
  obtain ⟨-,o,ho,-⟩:=mem_ready.1 (show k ∈ Region.ready md ops listed by rw [hB.1]; simp)
  have hlo : l[k]? = some o:=by rw [hl] at ho; simpa using ho
  refine ⟨fun h1 => (by rw [hB.1] at h1; cases h1),fun i hi => ?_⟩
  rw [hB.1] at hi
  have hik : i = k:=by simpa using hi
  subst hik
  have hp : picksN l (i :: ks) = (i,o) :: picksN l ks:=by unfold picksN; rw [List.filterMap_cons,hlo]; rfl
  rw [hp] at h
  have hw : wpOp P ops Q i (fun a' w' => (i < m → S w') ∧ wpKeepL P ops Q S m (picksN l ks) a' w') a w:=by unfold wpOp; simp only [ho]; exact h
  exact wpOp_mono (fun a' w' h' => ⟨h'.1,wpAnyM_of_seqL hl ks _ a' w' hB.2 h'.2⟩) hw
theorem wpAnyM_head {m : Nat} {w : World} {l : List Oper} (hl : ops = l.toArray) (hS : S w) (hs : Region.noSelect ops = true) (hQ : ∀ c a d v w,Q (.panic c) (Act.put a d v) w → Q (.panic c) a w) (tl : List Nat) :
  ∀ (ks : List Nat) (listed : Array Bool) (a : Act),Closed md ops listed → (∀ i ∈ ks,∀ j,m ≤ j → j < ops.size → Region.waitsT md ops ops.size j i = true) → Region.headL md ops tl ks listed = true →
  wpHeld P ops S (fun a' => wpKeepL P ops Q S m (picksN l tl) a' w) (picks l ks) a → wpAnyM P md ops Q S m (ks.length + tl.length) listed a w
 | [],listed,a,hc,hm,hB,h => by
  rw [show ([] : List Nat).length + tl.length = tl.length by simp]
  exact wpAnyM_of_seqL hl tl listed a w (by simpa [Region.headL] using hB) h
 | k :: ks,listed,a,hc,hm,hB,h => by
  simp only [Region.headL,Bool.and_eq_true] at hB
  obtain ⟨⟨hr,hf⟩,hB'⟩:=hB
  have hr' : k ∈ Region.ready md ops listed:=by simpa using hr
  obtain ⟨-,o,ho,-⟩:=mem_ready.1 hr'
  have hlo : l[k]? = some o:=by rw [hl] at ho; simpa using ho
  have hp : picks l (k :: ks) = o :: picks l ks:=by unfold picks; rw [List.filterMap_cons,hlo]
  rw [hp] at h
  obtain ⟨v,hy,hK⟩:=h
  rw [show (k :: ks).length + tl.length = (ks.length + tl.length) + 1 by simp only [List.length_cons]; omega]
  exact wpAnyM_firstT ho (Region.noSelect_spec hs) (fun c a w => hQ c a _ _ w) (hm k List.mem_cons_self) (ks.length + tl.length) listed a w hc (Region.free_spec ho hf) hr' hy hS
   (wpAnyM_head hl hS hs hQ tl ks _ _ (closed_set hc hr') (fun i hi => hm i (List.mem_cons_of_mem _ hi)) hB' hK)
def Region.readsB (md : Region.Mode) (ops : Array Oper) (ks tl : List Nat) (m : Nat) : Bool:=
 Region.noSelect ops && Region.headL md ops tl ks (Array.replicate ops.size false) && decide (ks.length + tl.length = ops.size) &&
 ks.all fun i => (List.range ops.size).all fun j => decide (j < m) || Region.waitsT md ops ops.size j i
theorem region_reads {id : Nat} {a : Act} {w : World} {l : List Oper} (S : World → Prop) (ks tl : List Nat) (m : Nat) (hmix : P.follows .mixedOrders = true) (hB : Region.readsB .any l.toArray ks tl m = true) (hS : S w.drew)
  (h : wpHeld P l.toArray S (fun a' => wpKeepL P l.toArray (NoPanic Q) S m (picksN l tl) a' w.drew) (picks l ks) a) : (Code.region id l.toArray true).wp P Q a w:=by
 refine wp_region_noPanic ?_
 simp only [Region.readsB,Bool.and_eq_true,decide_eq_true_eq] at hB
 obtain ⟨⟨⟨hsel,hhead⟩,hlen⟩,hmm⟩:=hB
 have hc : Closed .any l.toArray (Array.replicate l.toArray.size false):=fun j oj hj hlj => by
  have hjl:=(Array.getElem?_eq_some_iff.1 hj).1
  have h0 : (Array.replicate l.toArray.size false).getD j true = false:=by
   unfold Array.getD
   rw [dif_pos (by simpa using hjl)]
   simp
  rw [h0] at hlj
  cases hlj
 have H:=wpAnyM_head (md:=.any) (Q:=NoPanic Q) (m:=m) (w:=w.drew) rfl hS hsel (fun _ _ _ _ _ h => h) tl ks (Array.replicate l.toArray.size false) a hc (fun i hi j hj hjs => by
  have h1:=List.all_eq_true.1 (List.all_eq_true.1 hmm i hi) j (List.mem_range.2 hjs)
  simp only [Bool.or_eq_true,decide_eq_true_eq] at h1
  rcases h1 with h1 | h1
  ·omega
  ·exact h1) hhead h
 rw [hlen] at H
 exact wp_region_any hmix (wpAny_of_M _ _ _ _ H)
theorem wpKeepL_step {m k : Nat} {a : Act} {w : World} {o : Oper} {rest : List (Nat × Oper)} (hg : o.guard = none)
  (h : ∀ K : Act → World → Prop,(∀ a w,(k < m → S w) → wpKeepL P ops Q S m rest a w → K a w) → o.wp P a w K Q) : wpKeepL P ops Q S m ((k,o) :: rest) a w:=by
 have h1:=h _ (fun a w hS hK => (⟨hS,hK⟩ : (k < m → S w) ∧ wpKeepL P ops Q S m rest a w))
 unfold wpKeepL
 simp only [Region.wanted,hg,if_true]
 exact .inl h1
theorem wpKeepL_rest {m : Nat} : ∀ (l : List (Nat × Oper)) (a : Act) (w : World),(∀ x ∈ l,m ≤ x.1) → wpList P ops Q (l.map Prod.snd) a w → wpKeepL P ops Q S m l a w
 | [],_,_,_,h => h
 | (k,o) :: l,a,w,hk,h => by
  rw [List.map_cons] at h
  unfold wpList at h
  unfold wpKeepL
  have h0 : m ≤ k:=hk (k,o) (by simp)
  have hmono : ∀ a' w',wpList P ops Q (l.map Prod.snd) a' w' → (k < m → S w') ∧ wpKeepL P ops Q S m l a' w':=fun a' w' h' => ⟨fun hh => by omega,wpKeepL_rest l a' w' (fun x hx => hk x (by simp [hx])) h'⟩
  by_cases hw : Region.wanted o (yielded ops a.tmps) = true
  ·simp only [hw,if_true] at h ⊢
   exact h.imp (Oper.wp_mono hmono) id
  ·simp only [hw] at h ⊢
   exact hmono _ _ h
end
end Go.Proofs.YtjeggkfgdhepaaaGreatDoor

namespace Go.Proofs.YtjeggkfgdhepaaaGreatDoor
open Go.RowKit
open Go.Proofs
def Pt.patB (p : Pt) : Bool:=p.okS [] && p.size.fits
theorem rule_any (w : World) : Calls Tryz.prog 66 #[] w fun e w' => e = .returned (.agg #[.bool true]) ∧ Below w.heap.size w w':=by
 go_enter Tryz.func66,Tryz.ntmps66
 go_wp2_with fail
 exact bodyPost_ret (v:=.agg #[.bool true]) (by simp [results,Tryz.results66,go_sem]) rfl ⟨rfl,(Below.refl w.heap.size w).alloc (Nat.le_refl _) _⟩
set_option maxHeartbeats 1000000 in
theorem rulePat_any (p : Pt) (w : World) (h : Env w) (hin : p.In w.heap.size w) (hlen : p.binds.length ≤ 1048576) :
  Calls Tryz.prog 71 #[.agg #[.bool true],p.val] w fun e w' => e = .returned (.bool (p.okS [])) ∧ Below w.heap.size w w':=by
 have HE:=Lib.hid h
 have HI:=Lib.hid hin
 have HB:=h.big
 have HC:=Lib.hid (fun (W : World) (bs : Nat) (hh : Seen w.heap.size bs W (.slice none 0 0) []) (hp : p.In w.heap.size W) (he : Env W) => pat_ok w.heap.size p W bs (.slice none 0 0) [] hp HB he hh (by simpa using hlen) rfl)
 clear h hin
 unfold Pt.val at *
 go_enter Tryz.func71,Tryz.ntmps71
 go_wp2_with fail
 have hb3 : Below w.heap.size w (((w.alloc (.cells #[.bool true] 113)).alloc (.cells #[.string p.dof,.string p.name,.int .i64 p.num,.slice p.at_ p.args.length p.cap] 28)).alloc (.cells #[.slice none 0 0] 53)):=(((Below.refl _ _).alloc (Nat.le_refl _) _).alloc (by simp) _).alloc (by simp; omega) _
 have HB3:=Lib.hid hb3
 clear hb3
 refine Calls.mono (HC.out _ (w.heap.size + 2) ⟨by omega,Blk.new' _ _ _ _ (by simp),Texts.nil _ _⟩ (Pt.In.keep HB3.out _ HI.out) (HE.out.next HB3.out)) ?_
 rintro e w1 ⟨hf,h⟩
 have hb : Below w.heap.size w w1:=HB3.out.trans (hf.below (by simp; omega) fun k hk => by
  rcases hk with rfl | hk
  ·omega
  ·simp [Value.ownBlock] at hk)
 have HBL:=Lib.hid hb
 clear hf hb
 rcases h with ⟨hok,rfl,-⟩ | ⟨hok,rfl⟩
 ·have HO:=Lib.hid hok
  clear hok
  go_wp2_with fail
  go_ret
  exact ⟨by rw [HO.out]; rfl,HBL.out⟩
 ·have HO:=Lib.hid hok
  clear hok
  go_wp2_with fail
  go_ret
  exact ⟨by rw [HO.out]; rfl,HBL.out⟩
def BoxS (b : Nat) (p : Pt) (W : World) : Prop:=W.cell? ⟨b,0,none⟩ = some (.string p.dof) ∧ W.cell? ⟨b,1,none⟩ = some (.string p.name) ∧ W.cell? ⟨b,2,none⟩ = some (.int .i64 p.num) ∧ W.cell? ⟨b,3,none⟩ = some (.slice p.at_ p.args.length p.cap) ∧ b < W.heap.size
set_option maxRecDepth 100000 in
set_option maxHeartbeats 2000000 in
theorem isPat_any (p : Pt) (w : World) (h : Env w) (hin : p.In w.heap.size w) (hlen : p.binds.length ≤ 1048576) :
  Calls Tryz.prog 36 #[p.val] w fun e w' => e = .returned (.bool p.patB) ∧ Below w.heap.size w w':=by
 have HE:=Lib.hid h
 have HI:=Lib.hid hin
 have HC1:=Lib.hid (fun (W : World) (hp : p.In W.heap.size W) (he : Env W) => rulePat_any p W he hp hlen)
 have HC2:=Lib.hid (fun (W : World) (hp : p.In W.heap.size W) => ofPat_any p W hp)
 unfold Pt.patB
 clear h hin
 generalize p.okS [] = ok at HC1 ⊢
 generalize p.size = sz at HC2 ⊢
 have HB0:=Lib.hid ((Below.refl w.heap.size w).alloc (Nat.le_refl _) (.cells #[.string p.dof,.string p.name,.int .i64 p.num,.slice p.at_ p.args.length p.cap] 28))
 have HK:=Lib.hid (Blk.new w #[.string p.dof,.string p.name,.int .i64 p.num,.slice p.at_ p.args.length p.cap] 28)
 unfold Pt.val at *
 go_enter Tryz.func36,Tryz.ntmps36
 go_wp2_with fail
 generalize w.alloc (.cells #[.string p.dof,.string p.name,.int .i64 p.num,.slice p.at_ p.args.length p.cap] 28) = w0 at HB0 HK ⊢
 have hbox : ∀ W,Below w0.heap.size w0 W → BoxS w.heap.size p W:=fun W hW => by
  have hk:=HK.out.below hW HK.out.lt
  exact ⟨hk.cell 0,hk.cell 1,hk.cell 2,hk.cell 3,hk.lt⟩
 have HBOX:=Lib.hid hbox
 clear hbox
 refine region_reads (BoxS w.heap.size p) [1] [0,2,3,4,5,6,7,8] 2 (by kernel_rfl) (by kernel_rfl) (HBOX.out _ (Below.refl _ _).drew) ?_
 simp only [picks,picksN,List.filterMap_cons,List.getElem?_cons_zero,List.getElem?_cons_succ,List.filterMap_nil,Option.map_some]
 refine wpHeld_want ?_ (by rfl) (fun W hW => ?_) ?_
 rotate_left
 ·unfold BoxS at hW
  go_simp
  try with_reducible rfl
 simp only [Act.put,List.setIfInBounds_toArray,List.set_cons_zero,List.set_cons_succ]
 refine wpHeld_nil ?_
 refine wpKeepL_step rfl (fun K hK => ?_)
 go_simp
 refine Calls.mono (rule_any _) ?_
 rintro e w1 ⟨rfl,hb1⟩
 have hb2 : Below w0.heap.size w0 w1:=(Below.refl _ _).drew.trans hb1
 have HB2:=Lib.hid hb2
 clear hb1 hb2
 refine hK _ _ (fun _ => HBOX.out _ HB2.out) ?_
 clear hK K
 refine wpKeepL_rest _ _ _ (by decide) ?_
 simp only [List.map_cons,List.map_nil]
 obtain ⟨y0,y1,y2,y3,yl⟩:=HBOX.out _ HB2.out
 go_wp2_with fail
 refine Calls.mono (HC1.out _ (HI.out.at_ (HB0.out.trans (HB2.out.mono HB0.out.size)) (HB0.out.trans (HB2.out.mono HB0.out.size)).size) (HE.out.next (HB0.out.trans (HB2.out.mono HB0.out.size)))) ?_
 rintro e w2 ⟨rfl,hb3⟩
 have hb4 : Below w0.heap.size w0 w2:=HB2.out.trans (hb3.mono HB2.out.size)
 have HB4:=Lib.hid hb4
 clear hb3 hb4 y0 y1 y2 y3 yl
 obtain ⟨y0,y1,y2,y3,yl⟩:=HBOX.out _ HB4.out
 cases ok
 ·go_wp2_with fail
  refine NoPanic.normal ?_
  go_wp2_with fail
  go_ret
  exact ⟨rfl,HB0.out.trans (HB4.out.mono HB0.out.size)⟩
 ·go_wp2_with fail
  refine Calls.mono (HC2.out _ (HI.out.at_ (HB0.out.trans (HB4.out.mono HB0.out.size)) (HB0.out.trans (HB4.out.mono HB0.out.size)).size)) ?_
  rintro e w3 ⟨rfl,hb5⟩
  have HB5:=Lib.hid (HB4.out.trans (hb5.mono HB4.out.size))
  clear hb5
  go_wp2_with fail
  refine Calls.mono (fits_any _ _ _) ?_
  rintro e w4 ⟨rfl,hb6⟩
  have HB6:=Lib.hid (HB5.out.trans (hb6.mono HB5.out.size))
  clear hb6
  go_wp2_with fail
  refine NoPanic.normal ?_
  go_wp2_with fail
  go_ret
  exact ⟨by simp,HB0.out.trans (HB6.out.mono HB0.out.size)⟩
end Go.Proofs.YtjeggkfgdhepaaaGreatDoor

namespace Go.Proofs.YtjeggkfgdhepaaaGreatDoor
open Go.RowKit
open Go.Proofs
def Pt.valueB (p : Pt) : Bool:=p.patB && (p.binds.length : Int) == 0
def matchesErr (a b : Bool) : Int:=if a && b then 0 else 40
end Go.Proofs.YtjeggkfgdhepaaaGreatDoor

namespace Go.Proofs.YtjeggkfgdhepaaaGreatDoor
open Go.RowKit
open Go.Proofs
structure PtsIn (B : Nat) (w : World) (A : Option Addr) (l : List Pt) : Prop where
 row : RowAt B w 4 A (l.map Pt.cells)
 each : ∀ p ∈ l,p.In B w
 binds : ∀ p ∈ l,p.binds.length ≤ 1048576
 len : l.length ≤ 1099511627776
section
variable {B : Nat} {w w' : World} {A : Option Addr} {l : List Pt}
theorem PtsIn.at_ (h : PtsIn B w A l) (hb : Below B w w') (hB : B ≤ w'.heap.size) : PtsIn w'.heap.size w' A l:=⟨(h.row.keep hb).wider hB,fun p hp => (h.each p hp).at_ hb hB,h.binds,h.len⟩
end
def firstOf (l : List Pt) (v : Pt) : Int:=match l.findIdx? (fun p => p.matchB v) with | some i => i | none => -1
def FirstPost (w : World) (l : List Pt) (v : Pt) (e : Ending) (w' : World) : Prop:=
 Below w.heap.size w w' ∧ e = .returned (.tuple #[.int .i64 (if v.valueB && l.all Pt.patB then firstOf l v else 0),.int .i64 (if v.valueB && l.all Pt.patB then 0 else 40)])
end Go.Proofs.YtjeggkfgdhepaaaGreatDoor

namespace Go.Proofs.YtjeggkfgdhepaaaGreatDoor
open Go.RowKit
open Go.Proofs
def anyPt : Pt:=.mk ⟨#[97,110,121]⟩ ⟨#[]⟩ 0 none 0 []
theorem any_list : (⟨#[97,110,121]⟩ : ByteArray).toList = [97,110,121]:=by decide +kernel
set_option maxRecDepth 100000 in
set_option maxHeartbeats 1000000 in
theorem wellAny (w : World) : Calls Tryz.prog 62 #[.agg #[.string ⟨#[97,110,121]⟩,.string ⟨#[]⟩,.int .i64 0,.slice none 0 0]] w fun e w' => e = .returned (.bool true) ∧ Below w.heap.size w w':=by
 go_enter Tryz.func62,Tryz.ntmps62
 go_wp2_with fail
 refine wp_loop_rounds 1 ?_
 rw [rounds_succ]
 go_wp2_with fail
 go_ret
 exact ⟨rfl,(Below.refl _ _).alloc (Nat.le_refl _) _⟩
def NodeEq (d n : ByteArray) (m : Int) (len : Nat) (lo hi : Int) : Prop:=
 nodeOk d n m len = ((if d.toList == [99,111,110] then kindB .con n else n.toList == []) && (m == 0 || d.toList == [105,110,116] || d.toList == [98,111,111,108] && m == 1) && decide (lo ≤ (len : Int)) && decide ((len : Int) ≤ hi))
section
variable {d n : ByteArray} {m : Int} {len : Nat}
theorem zero_len (len : Nat) : ((len : Int) == 0) = (decide ((0 : Int) ≤ (len : Int)) && decide ((len : Int) ≤ 0)):=by
 rw [Bool.eq_iff_iff]
 simp
theorem NodeEq.plain (h : (d.toList == [97,110,121] || d.toList == [117,110,105,116] || d.toList == [110,105,108]) = true) (h1 : (d.toList == [99,111,110]) = false) (h2 : (d.toList == [105,110,116]) = false) (h3 : (d.toList == [98,111,111,108]) = false) : NodeEq d n m len 0 0:=by
 unfold NodeEq
 rw [node_plain h,h1,h2,h3,empty_list,zero_len]
 simp [Bool.and_assoc]
theorem NodeEq.int (h0 : (d.toList == [97,110,121] || d.toList == [117,110,105,116] || d.toList == [110,105,108]) = false) (h1 : (d.toList == [118,97,114]) = false) (h : (d.toList == [105,110,116]) = true) : NodeEq d n m len 0 0:=by
 unfold NodeEq
 rw [node_int h0 h1 h,do_other h (by decide),h,empty_list,zero_len]
 simp [Bool.and_assoc]
theorem NodeEq.bool (h0 : (d.toList == [97,110,121] || d.toList == [117,110,105,116] || d.toList == [110,105,108]) = false) (h1 : (d.toList == [118,97,114]) = false) (h2 : (d.toList == [105,110,116]) = false) (h : (d.toList == [98,111,111,108]) = true) : NodeEq d n m len 0 0:=by
 unfold NodeEq
 rw [node_bool h0 h1 h2 h,do_other h (by decide),h2,h,empty_list,zero_len]
 simp [Bool.and_assoc]
theorem NodeEq.two (h0 : (d.toList == [97,110,121] || d.toList == [117,110,105,116] || d.toList == [110,105,108]) = false) (h1 : (d.toList == [118,97,114]) = false) (h2 : (d.toList == [105,110,116]) = false) (h3 : (d.toList == [98,111,111,108]) = false)
  (h : (d.toList == [112,97,105,114] || d.toList == [99,111,110,115]) = true) (h4 : (d.toList == [99,111,110]) = false) : NodeEq d n m len 2 2:=by
 unfold NodeEq
 rw [node_two h0 h1 h2 h3 h,h4,h2,h3,empty_list]
 have e : ((len : Int) == 2) = (decide ((2 : Int) ≤ (len : Int)) && decide ((len : Int) ≤ 2)):=by
  rw [Bool.eq_iff_iff]
  simp
  omega
 rw [e]
 simp [Bool.and_assoc]
theorem NodeEq.con (h0 : (d.toList == [97,110,121] || d.toList == [117,110,105,116] || d.toList == [110,105,108]) = false) (h1 : (d.toList == [118,97,114]) = false) (h2 : (d.toList == [105,110,116]) = false) (h3 : (d.toList == [98,111,111,108]) = false)
  (h4 : (d.toList == [112,97,105,114] || d.toList == [99,111,110,115]) = false) (h : (d.toList == [99,111,110]) = true) : NodeEq d n m len 0 1:=by
 unfold NodeEq
 rw [node_con h0 h1 h2 h3 h4 h,h,h2,h3]
 have e : decide (len ≤ 1) = (decide ((0 : Int) ≤ (len : Int)) && decide ((len : Int) ≤ 1)):=by
  rw [Bool.eq_iff_iff]
  simp
  omega
 rw [e]
 simp [Bool.and_assoc]
end
set_option maxRecDepth 100000 in
set_option maxHeartbeats 4000000 in
theorem wellPat_any (d n : ByteArray) (m : Int) (A : Option Addr) (c len : Nat) (w : World) (h : Env w) (hn : n.size ≤ 1099511627776) (hlen : len ≤ 1099511627776) (hrow : RowAt w.heap.size w 4 A (List.replicate len anyPt.cells)) (hvar : (d.toList == [118,97,114]) = false) :
  Calls Tryz.prog 62 #[.agg #[.string d,.string n,.int .i64 m,.slice A len c]] w fun e w' => e = .returned (.bool (nodeOk d n m len)) ∧ Below w.heap.size w w':=by
 have HE:=Lib.hid h
 have HR:=Lib.hid hrow
 clear h hrow
 go_enter Tryz.func62,Tryz.ntmps62
 go_upto_block 0 with (fail)
 go_cut [3,4] (fun lv hv wx => ∃ lo hi : Int,lv = .int .i64 lo ∧ hv = .int .i64 hi ∧ NodeEq d n m len lo hi ∧ wx = w.alloc (.cells #[.string d,.string n,.int .i64 m,.slice A len c] 28))
 case first =>
  obtain ⟨tany,hany⟩ : ∃ t,(d.toList == [97,110,121]) = t:=⟨_,rfl⟩
  cases tany
  case true =>
   go_wp2_with fail
   go_meet
   exact ⟨0,0,rfl,rfl,NodeEq.plain (by rw [hany]; rfl) (do_other hany (by decide)) (do_other hany (by decide)) (do_other hany (by decide)),rfl⟩
  obtain ⟨tunit,hunit⟩ : ∃ t,(d.toList == [117,110,105,116]) = t:=⟨_,rfl⟩
  cases tunit
  case true =>
   go_wp2_with fail
   go_meet
   exact ⟨0,0,rfl,rfl,NodeEq.plain (by rw [hany,hunit]; rfl) (do_other hunit (by decide)) (do_other hunit (by decide)) (do_other hunit (by decide)),rfl⟩
  obtain ⟨tnil,hnil⟩ : ∃ t,(d.toList == [110,105,108]) = t:=⟨_,rfl⟩
  cases tnil
  case true =>
   go_wp2_with fail
   go_meet
   exact ⟨0,0,rfl,rfl,NodeEq.plain (by rw [hany,hunit,hnil]; rfl) (do_other hnil (by decide)) (do_other hnil (by decide)) (do_other hnil (by decide)),rfl⟩
  obtain ⟨tint,hint⟩ : ∃ t,(d.toList == [105,110,116]) = t:=⟨_,rfl⟩
  cases tint
  case true =>
   go_wp2_with fail
   go_meet
   exact ⟨0,0,rfl,rfl,NodeEq.int (by rw [hany,hunit,hnil]; rfl) hvar hint,rfl⟩
  obtain ⟨tbool,hbool⟩ : ∃ t,(d.toList == [98,111,111,108]) = t:=⟨_,rfl⟩
  cases tbool
  case true =>
   go_wp2_with fail
   go_meet
   exact ⟨0,0,rfl,rfl,NodeEq.bool (by rw [hany,hunit,hnil]; rfl) hvar hint hbool,rfl⟩
  obtain ⟨tpair,hpair⟩ : ∃ t,(d.toList == [112,97,105,114]) = t:=⟨_,rfl⟩
  cases tpair
  case true =>
   go_wp2_with fail
   go_meet
   exact ⟨2,2,rfl,rfl,NodeEq.two (by rw [hany,hunit,hnil]; rfl) hvar hint hbool (by rw [hpair]; rfl) (do_other hpair (by decide)),rfl⟩
  obtain ⟨tcons,hcons⟩ : ∃ t,(d.toList == [99,111,110,115]) = t:=⟨_,rfl⟩
  cases tcons
  case true =>
   go_wp2_with fail
   go_meet
   exact ⟨2,2,rfl,rfl,NodeEq.two (by rw [hany,hunit,hnil]; rfl) hvar hint hbool (by rw [hpair,hcons]; rfl) (do_other hcons (by decide)),rfl⟩
  obtain ⟨tcon,hcon⟩ : ∃ t,(d.toList == [99,111,110]) = t:=⟨_,rfl⟩
  cases tcon
  case true =>
   go_wp2_with fail
   go_meet
   exact ⟨0,1,rfl,rfl,NodeEq.con (by rw [hany,hunit,hnil]; rfl) hvar hint hbool (by rw [hpair,hcons]; rfl) hcon,rfl⟩
  go_wp2_with fail
  go_ret
  exact ⟨by rw [node_none (by rw [hany,hunit,hnil]; rfl) hvar hint hbool (by rw [hpair,hcons]; rfl) hcon]; rfl,(Below.refl _ _).alloc (Nat.le_refl _) _⟩
 case rest =>
  obtain ⟨lo,hi,rfl,rfl,hne,rfl⟩:=hcut
  have HNE:=Lib.hid hne
  have HB0:=Lib.hid ((Below.refl w.heap.size w).alloc (Nat.le_refl _) (.cells #[.string d,.string n,.int .i64 m,.slice A len c] 28))
  have HK:=Lib.hid (Blk.new w #[.string d,.string n,.int .i64 m,.slice A len c] 28)
  clear hne
  go_wp2_with fail
  generalize w.alloc (.cells #[.string d,.string n,.int .i64 m,.slice A len c] 28) = w0 at HB0 HK ⊢
  go_loopw [26] (fun iv wr => ∃ k : Nat,iv = .int .i64 k ∧ k ≤ len ∧ Hid (Below w0.heap.size w0 wr)) (fun iv _ => len - (intOf iv).toNat)
  case atStart => exact ⟨0,rfl,Nat.zero_le _,Below.refl _ _⟩
  case round =>
   obtain ⟨k,rfl,hk,HB⟩:=hrel
   by_cases hlt : k < len
   ·obtain ⟨b,off,rfl,hb,hc⟩:=HR.out (by simp; omega)
    have hq : (List.replicate len anyPt.cells)[k]? = some anyPt.cells:=by simp [hlt]
    have HBW:=Lib.hid (HB0.out.trans (HB.out.mono HB0.out.size))
    have x0:=(HBW.out.cell (p:=⟨b,off + k * 4,none⟩) hb).trans (hc k _ hq 0 _ rfl)
    have x1:=(HBW.out.cell (p:=⟨b,off + k * 4 + 1,none⟩) hb).trans (hc k _ hq 1 _ rfl)
    have x2:=(HBW.out.cell (p:=⟨b,off + k * 4 + 2,none⟩) hb).trans (hc k _ hq 2 _ rfl)
    have x3:=(HBW.out.cell (p:=⟨b,off + k * 4 + 3,none⟩) hb).trans (hc k _ hq 3 _ rfl)
    clear hc hq
    go_wp2_with fail
    refine Calls.mono (wellAny _) ?_
    rintro e w1 ⟨rfl,hb1⟩
    have HB1:=Lib.hid (HB.out.trans ((((Below.refl _ _).alloc (Nat.le_refl _) _).trans (hb1.mono (by simp))).mono HB.out.size))
    clear hb1
    go_wp2_with fail
    exact ⟨⟨k + 1,by go_num,by omega,HB1.out⟩,by simp [intOf]; omega⟩
   ·have hk2 : k = len:=by omega
    have kp:=HK.out.below HB.out HK.out.lt
    obtain ⟨y0,y1,y2,y3⟩:=kp.four
    have yl:=kp.lt
    have HKP:=Lib.hid kp
    clear kp hk2
    have HBW:=Lib.hid (HB0.out.trans (HB.out.mono HB0.out.size))
    have hres:=HNE.out
    unfold NodeEq at hres
    obtain ⟨tl,htl⟩ : ∃ t,decide (lo ≤ (len : Int)) = t:=⟨_,rfl⟩
    obtain ⟨th,hth⟩ : ∃ t,decide ((len : Int) ≤ hi) = t:=⟨_,rfl⟩
    obtain ⟨te,hte⟩ : ∃ t,(n.toList == []) = t:=⟨_,rfl⟩
    obtain ⟨tz,htz⟩ : ∃ t,(m == 0) = t:=⟨_,rfl⟩
    obtain ⟨tw,htw⟩ : ∃ t,(m == 1) = t:=⟨_,rfl⟩
    obtain ⟨tc,htc⟩ : ∃ t,(d.toList == [99,111,110]) = t:=⟨_,rfl⟩
    obtain ⟨ti,hti⟩ : ∃ t,(d.toList == [105,110,116]) = t:=⟨_,rfl⟩
    obtain ⟨tb,htb⟩ : ∃ t,(d.toList == [98,111,111,108]) = t:=⟨_,rfl⟩
    rw [htl,hth,hte,htz,htw,htc,hti,htb] at hres
    have HRES:=Lib.hid hres
    clear hres
    obtain ⟨kb,hkb⟩ : ∃ t,kindB .con n = t:=⟨_,rfl⟩
    have hcn:=rIsCon_any n hn
    rw [hkb] at hcn HRES
    have HCN:=Lib.hid hcn
    clear hcn hkb
    cases tc
    ·go_wp2_with fail
     all_goals
      go_ret
      refine ⟨?_,HBW.out⟩
      have h1:=HRES.out
      rw [h1]
      simp_all
    ·go_wp2_with fail
     refine Calls.mono (HCN.out _ (HE.out.next HBW.out)) ?_
     rintro e w1 ⟨rfl,hb1⟩
     have kp:=HKP.out.below hb1 HKP.out.lt
     clear y0 y1 y2 y3 yl
     obtain ⟨y0,y1,y2,y3⟩:=kp.four
     have yl:=kp.lt
     have HB1:=Lib.hid (HBW.out.trans (hb1.mono HBW.out.size))
     clear hb1 kp
     go_wp2_with fail
     all_goals
      go_ret
      refine ⟨?_,HB1.out⟩
      have h1:=HRES.out
      rw [h1]
      simp_all
end Go.Proofs.YtjeggkfgdhepaaaGreatDoor

namespace Go.Proofs.YtjeggkfgdhepaaaGreatDoor
open Go.RowKit
open Go.Proofs
theorem infoPat : (Tryz.prog.info? 28).map (fun i => (i.zero,i.size,i.bytes)) = some (some (.agg #[.string ⟨#[]⟩,.string ⟨#[]⟩,.int .i64 0,.slice none 0 0]),4,64):=by kernel_rfl
theorem well_var {d n : ByteArray} {m : Int} {A : Option Addr} {c : Nat} {l : List Pt} (hv : (d.toList == [118,97,114]) = true) : (Pt.mk d n m A c l).wellB = (kindB .name n && (m == 0) && ((l.length : Int) == 0)):=by
 have h0 : (d.toList == [97,110,121] || d.toList == [117,110,105,116] || d.toList == [110,105,108]) = false:=by
  rw [do_other hv (by decide),do_other hv (by decide),do_other hv (by decide)]
  rfl
 rw [Pt.wellB_mk,node_var h0 hv]
 cases hl : ((l.length : Int) == 0) with
 | false => simp
 | true =>
  have : l = []:=by
   simp only [beq_iff_eq] at hl
   exact List.eq_nil_of_length_eq_zero (by omega)
  subst this
  simp
set_option maxRecDepth 100000 in
set_option maxHeartbeats 4000000 in
theorem wellLong_any : ∀ (p : Pt) (w : World),Env w → p.In w.heap.size w →
  Calls Tryz.prog 28 #[p.val,.bool true] w fun e w' => e = .returned (.bool p.wellB) ∧ Below w.heap.size w w':=by
 refine Pt.induct fun d n m A c l ih w he hin => ?_
 obtain ⟨hd,hn,hm,hl,-,hrow,hall⟩:=Pt.In_mk.1 hin
 have HR:=Lib.hid hrow
 have HA:=Lib.hid hall
 have IH:=Lib.hid ih
 have HE:=Lib.hid he
 clear hin hrow hall ih he
 have HB0:=Lib.hid ((Below.refl w.heap.size w).alloc (Nat.le_refl _) (.cells #[.string d,.string n,.int .i64 m,.slice A l.length c] 28))
 have HK:=Lib.hid (Blk.new w #[.string d,.string n,.int .i64 m,.slice A l.length c] 28)
 unfold Pt.val
 simp only [Pt.dof,Pt.name,Pt.num,Pt.at_,Pt.cap,Pt.args]
 obtain ⟨tv,htv⟩ : ∃ t,(d.toList == [118,97,114]) = t:=⟨_,rfl⟩
 cases tv
 case true =>
  rw [well_var htv]
  have hcn:=rIsName_any n hn
  generalize kindB .name n = nb at hcn ⊢
  have HCN:=Lib.hid hcn
  clear hcn
  obtain ⟨b2,h2⟩ : ∃ b,(m == 0) = b:=⟨_,rfl⟩
  obtain ⟨b3,h3⟩ : ∃ b,((l.length : Int) == 0) = b:=⟨_,rfl⟩
  rw [h2,h3]
  cases nb <;> cases b2 <;> cases b3
  all_goals
   go_enter Tryz.func28,Tryz.ntmps28
   go_wp2_with fail
   refine Calls.mono (HCN.out _ (HE.out.next HB0.out)) ?_
   rintro e w1 ⟨rfl,hb1⟩
   have kp:=HK.out.below hb1 HK.out.lt
   obtain ⟨y0,y1,y2,y3⟩:=kp.four
   have yl:=kp.lt
   have HB1:=Lib.hid (HB0.out.trans (hb1.mono HB0.out.size))
   clear hb1 kp
   go_wp2_with fail
   go_ret
   exact ⟨rfl,HB1.out⟩
 rw [Pt.wellB_mk]
 obtain ⟨i0,hi,hz0,hz1,hz2⟩:=info_parts infoPat
 go_enter Tryz.func28,Tryz.ntmps28
 go_wp2_with fail
 generalize w.alloc (.cells #[.string d,.string n,.int .i64 m,.slice A l.length c] 28) = w0 at HB0 HK ⊢
 go_loopw [32] (fun iv wr => ∃ k : Nat,iv = .int .i64 k ∧ k ≤ l.length ∧ Hid (Below w0.heap.size w0 wr) ∧ Hid ((l.take k).all Pt.wellB = true)) (fun iv _ => l.length - (intOf iv).toNat)
 case atStart => exact ⟨0,rfl,Nat.zero_le _,Below.refl _ _,Lib.hid rfl⟩
 case round =>
  obtain ⟨k,rfl,hk,HB,HW⟩:=hrel
  have HBW:=Lib.hid (HB0.out.trans (HB.out.mono HB0.out.size))
  by_cases hlt : k < l.length
  ·obtain ⟨q,b0,off,hq,hmem,rfl,hb,x0,x1,x2,x3⟩:=Pt.arg_at HR.out HBW.out hlt
   have HQ:=Lib.hid ((HA.out q hmem).at_ HBW.out HBW.out.size)
   have HKQ:=Lib.hid hq
   have hcall:=Lib.hid fun w1 (he : Env w1) (hh : q.In w1.heap.size w1) => IH.out q hmem w1 he hh
   clear hq
   go_wp2_with fail
   refine Calls.mono (hcall.out _ ((HE.out.next HBW.out).next ((Below.refl _ _).alloc (Nat.le_refl _) _)) (HQ.out.next ((Below.refl _ _).alloc (Nat.le_refl _) _))) ?_
   rintro e w1 ⟨rfl,hb1⟩
   have HB1:=Lib.hid (HB.out.trans ((((Below.refl _ _).alloc (Nat.le_refl _) _).trans (hb1.mono (by simp))).mono HB.out.size))
   clear hb1
   obtain ⟨r,hr⟩ : ∃ r,q.wellB = r:=⟨_,rfl⟩
   rw [hr]
   have HRR:=Lib.hid hr
   clear hr
   cases r
   ·go_wp2_with fail
    go_ret
    have hno : l.all Pt.wellB = false:=by
     rw [List.all_eq_false]
     exact ⟨q,hmem,by rw [HRR.out]; simp⟩
    rw [hno,Bool.and_false]
    exact ⟨rfl,HB0.out.trans (HB1.out.mono HB0.out.size)⟩
   ·go_wp2_with fail
    refine ⟨⟨k + 1,by go_num,by omega,HB1.out, ?_⟩,by simp [intOf]; omega⟩
    have hw:=HW.out
    unfold Hid
    rw [List.take_add_one,HKQ.out]
    simp [List.all_append,hw,HRR.out]
  ·have hk2 : k = l.length:=by omega
   have hw:=HW.out
   rw [hk2,List.take_length] at hw
   have HWA:=Lib.hid hw
   have kp:=HK.out.below HB.out HK.out.lt
   obtain ⟨y0,y1,y2,y3⟩:=kp.four
   have yl:=kp.lt
   have HKP:=Lib.hid kp
   clear hw hk2 kp
   obtain ⟨wo,rfl⟩ : ∃ wo : World,wo = wr:=⟨_,rfl⟩
   go_wp2_with fail
   go_loopw [45] (fun iv wx => ∃ (j : Nat) (A' : Option Addr) (c' : Nat),iv = .int .i64 j ∧ j ≤ l.length ∧ Hid (Below wo.heap.size wo wx) ∧ Hid (Blk wx wo.heap.size #[.string d,.string n,.int .i64 m,.slice A' j c'] 28) ∧ Hid (wx.ownsRow (wo.heap.size + 1) 28 4 (.slice A' j c') j (List.replicate j anyPt.cells).flatten)) (fun iv _ => l.length - (intOf iv).toNat)
   case atStart => exact ⟨0,none,0,rfl,Nat.zero_le _,Lib.hid ((Below.refl _ _).alloc (Nat.le_refl _) _),Lib.hid (Blk.new _ _ _),Lib.hid (World.ownsRow_nil _ _ _ _)⟩
   case round =>
    obtain ⟨j,A',c',rfl,hj,HBX,HKX,HO⟩:=hrel
    obtain ⟨z0,z1,z2,z3⟩:=HKX.out.four
    have f3:=HKX.out.free 3
    have zl:=HKX.out.lt
    have zb:=HBX.out.size
    by_cases hlt2 : j < l.length
    ·go_wp2_with (at_builtin; go_must (refine wpList_append_own_at _ rfl (.tmp 48) (.tmp 50) 26 rfl (wo.heap.size + 1) 28 i0 _ 4 64 Tryz.underlying26 hi hz0 hz1 hz2 rfl (by decide) (.slice A' j c') j ((List.replicate j anyPt.cells).flatten) rfl ?hown ⟨wr.heap.size,0,none⟩ 1 1 anyPt.cells rfl rfl ?c1 ?c2 ?c3 ?c4 ?c5 ?_))
     case hown => exact World.ownsRow.alloc HO.out _
     case c1 => exact World.news_of_block (heap_alloc_new wr _)
     case c2 => simp [Value.oneCell',Pt.cells,anyPt]
     case c3 => unfold maxLen; omega
     case c4 => omega
     case c5 => first | omega | (simp; omega)
     intro v' w2 hown hgrow _ hwhere
     obtain ⟨A2,c2,rfl,-⟩:=row_slice hown
     have hnb : (Value.slice A' j c').ownBlock ≠ some wo.heap.size:=fun e => by have:=(HO.out.lt _ e).1; omega
     have kq : Blk w2 wo.heap.size _ _:=(hgrow.block _ (by simp; omega) (fun e => hnb e.symm)).trans (HKX.out.alloc _)
     have hbq : Below wo.heap.size wo w2:=(HBX.out.alloc zb _).grown hgrow (by simp; omega) (fun i hi => by have:=(HO.out.lt i hi).1; omega)
     have hsz2:=kq.lt
     have q3:=kq.cell 3
     have g3:=kq.free 3
     simp only [List.getElem?_toArray,List.getElem?_cons_zero,List.getElem?_cons_succ] at q3
     have hne : ∀ i,(Value.slice A2 (j + 1) c2).ownBlock = some i → wo.heap.size + 1 ≤ i:=fun i hi => (hown.lt i hi).1
     have KQ:=Lib.hid kq
     have HBQ:=Lib.hid hbq
     have HOW:=Lib.hid hown
     have HNE:=Lib.hid hne
     clear hown hgrow hwhere kq hbq hnb hne z0 z1 z2 z3 f3
     go_wp2_with fail
     refine ⟨⟨j + 1,A2,c2,by go_num,by omega,HBQ.out.setCell (by simp) _,Lib.hid ((KQ.out.set 3 _).cast (by simp)), ?_⟩,by simp [intOf]; omega⟩
     have hr:=row_stays (w1:=w2.setCell ⟨wo.heap.size,3,none⟩ (.slice A2 (j + 1) c2)) HOW.out (fun i hi => Below.heap_setCell _ _ _ _ (by have:=HNE.out i hi; simp; omega))
     unfold Hid
     rw [List.replicate_succ',List.flatten_append]
     simpa using hr
    ·have hj2 : j = l.length:=by omega
     have HJ2:=Lib.hid hj2
     have hrw : RowAt wr.heap.size wr 4 A' (List.replicate j anyPt.cells):=RowAt.of_row HO.out (by simp) (fun x hx => by rw [(List.mem_replicate.1 hx).2]; rfl)
     have HBW2:=Lib.hid (HBW.out.trans (HBX.out.mono HBW.out.size))
     have hwp:=wellPat_any d n m A' c' j wr (HE.out.next HBW2.out) hn (by omega) hrw htv
     have HWP:=Lib.hid hwp
     clear hrw hwp hj2
     go_wp2_with fail
     refine Calls.mono HWP.out ?_
     rintro e w1 ⟨rfl,hb1⟩
     have HB1:=Lib.hid (HBW2.out.trans (hb1.mono HBW2.out.size))
     clear hb1
     go_wp2_with fail
     go_ret
     refine ⟨?_,HB1.out⟩
     rw [HWA.out,Bool.and_true,← HJ2.out]
     rfl
end Go.Proofs.YtjeggkfgdhepaaaGreatDoor

namespace Go.Proofs.YtjeggkfgdhepaaaGreatDoor
open Go.RowKit
open Go.Proofs
theorem bytes_eq {a b : ByteArray} (h : (a.toList == b.toList) = true) : a = b:=by
 simp only [beq_iff_eq,toList_data] at h
 cases a; cases b
 simp only [ByteArray.mk.injEq]
 exact Array.toList_inj.1 h
theorem bytes_ne {a b : ByteArray} (h : (a.toList == b.toList) = false) : a ≠ b:=by
 rintro rfl
 simp at h
theorem distinct_not {xs : List ByteArray} {i j : Nat} {a : ByteArray} (hi : xs[i]? = some a) (hj : xs[j]? = some a) (hji : j < i) : distinctB xs = false:=by
 unfold distinctB
 rw [decide_eq_false_iff_not]
 intro h
 have hil:=(List.getElem?_eq_some_iff.1 hi).1
 have hjl:=(List.getElem?_eq_some_iff.1 hj).1
 exact List.pairwise_iff_getElem.1 h j i hjl hil hji ((List.getElem?_eq_some_iff.1 hj).2.trans (List.getElem?_eq_some_iff.1 hi).2.symm)
set_option maxRecDepth 100000 in
set_option maxHeartbeats 2000000 in
theorem differ_any (B : Nat) (w : World) (v : Value) (xs : List ByteArray) (h : Texts B w v xs) (hl : xs.length ≤ 1048576) :
  Calls Tryz.prog 29 #[v] w fun e w' => e = .returned (.bool (distinctB xs)) ∧ w = w':=by
 obtain ⟨A,c,rfl,h⟩:=h
 have H:=Lib.hid h
 clear h
 go_enter Tryz.func29,Tryz.ntmps29
 go_wp2_with fail
 go_loopw [9] (fun iv wr => ∃ i : Nat,iv = .int .i64 i ∧ i ≤ xs.length ∧ Hid (distinctB (xs.take i) = true) ∧ wr = w) (fun iv _ => xs.length - (intOf iv).toNat)
 case atStart => exact ⟨0,rfl,Nat.zero_le _,Lib.hid rfl,rfl⟩
 case round =>
  obtain ⟨i,rfl,hi,HD,rfl⟩:=hrel
  by_cases hlt : i < xs.length
  ·obtain ⟨a,ha⟩ : ∃ a,xs[i]? = some a:=⟨_,List.getElem?_eq_getElem hlt⟩
   obtain ⟨g,rfl,hc,-⟩:=row_cell H.out i (.string a) (by simp [ha])
   have HA:=Lib.hid ha
   have hic : (i : Int) ≤ (c : Int):=by
    rcases H.out.2 with ⟨he,_⟩ | ⟨g',cap,cur,he,-,-,hcap,-⟩
    ·simp at he
    ·simp only [Value.slice.injEq] at he
     obtain ⟨-,-,rfl⟩:=he
     omega
   have i0 : (0 : Int) ≤ i:=by omega
   clear ha
   go_wp2_with fail
   obtain ⟨wo,rfl⟩ : ∃ wo : World,wo = wr:=⟨_,rfl⟩
   go_loopw [18] (fun jv wr => ∃ j : Nat,jv = .int .i64 j ∧ j ≤ i ∧ Hid (∀ k b,k < j → xs[k]? = some b → b ≠ a) ∧ wr = wo) (fun jv _ => i - (intOf jv).toNat)
   case atStart => exact ⟨0,rfl,Nat.zero_le _,Lib.hid (fun k b hk => absurd hk (Nat.not_lt_zero _)),rfl⟩
   case round =>
    obtain ⟨j,rfl,hj,HJ,rfl⟩:=hrel
    by_cases hlt2 : j < i
    ·obtain ⟨b,hb⟩ : ∃ b,xs[j]? = some b:=⟨_,List.getElem?_eq_getElem (by omega)⟩
     obtain ⟨g',hg',hc2,-⟩:=row_cell H.out j (.string b) (by simp [hb])
     simp only [Option.some.injEq,Addr.mk.injEq,and_true] at hg'
     subst hg'
     have HBB:=Lib.hid hb
     obtain ⟨r,hr⟩ : ∃ r,(a.toList == b.toList) = r:=⟨_,rfl⟩
     have HRR:=Lib.hid hr
     clear hb
     cases r
     ·go_wp2_with fail
      refine ⟨⟨j + 1,by go_num,by omega, ?_,trivial⟩,by simp [intOf]; omega⟩
      refine Lib.hid fun k b' hk hb' => ?_
      rcases Nat.lt_succ_iff_lt_or_eq.1 hk with hk | rfl
      ·exact HJ.out k b' hk hb'
      ·rw [HBB.out] at hb'
       simp only [Option.some.injEq] at hb'
       subst hb'
       exact (bytes_ne HRR.out).symm
     ·go_wp2_with fail
      go_ret
      have hab:=bytes_eq HRR.out
      subst hab
      exact ⟨by rw [distinct_not HA.out HBB.out hlt2]; rfl,rfl⟩
    ·have hj2 : j = i:=by omega
     subst hj2
     go_wp2_with fail
     refine ⟨⟨j + 1,by go_num,by omega, ?_,trivial⟩,by simp [intOf]; omega⟩
     refine Lib.hid ?_
     rw [List.take_add_one,HA.out]
     refine distinct_snoc HD.out fun hm => ?_
     obtain ⟨k,hk,hke⟩:=List.getElem_of_mem hm
     simp only [List.length_take] at hk
     exact HJ.out k a (by omega) (by rw [← hke]; simp [List.getElem?_eq_getElem (show k < xs.length by omega)]) rfl
  ·have hi2 : i = xs.length:=by omega
   have hd:=HD.out
   rw [hi2,List.take_length] at hd
   have HD2:=Lib.hid hd
   clear hd hi2
   go_wp2_with fail
   go_ret
   exact ⟨by rw [HD2.out]; rfl,rfl⟩
set_option maxRecDepth 100000 in
set_option maxHeartbeats 2000000 in
theorem validFlat_any (p : Pt) (w : World) (h : Env w) (hin : p.In w.heap.size w) (hlen : p.binds.length ≤ 1048576) :
  Calls Tryz.prog 9 #[p.val] w fun e w' => e = .returned (.bool p.patB) ∧ Below w.heap.size w w':=by
 have HE:=Lib.hid h
 have HI:=Lib.hid hin
 have HC1:=Lib.hid (fun (W : World) (hp : p.In W.heap.size W) (he : Env W) => wellLong_any p W he hp)
 have HC2:=Lib.hid (fun (W : World) (hp : p.In W.heap.size W) => rbinds_any p W hp hlen)
 have HC3:=Lib.hid (fun (B : Nat) (W : World) (v : Value) (hh : Texts B W v p.binds) => differ_any B W v p.binds hh hlen)
 have HC4:=Lib.hid (fun (W : World) (hp : p.In W.heap.size W) => sizePat_any p W hp)
 unfold Pt.patB Pt.okS
 rw [List.nil_append]
 clear h hin
 have HB0:=Lib.hid ((Below.refl w.heap.size w).alloc (Nat.le_refl _) (.cells #[.string p.dof,.string p.name,.int .i64 p.num,.slice p.at_ p.args.length p.cap] 28))
 have HK:=Lib.hid (Blk.new w #[.string p.dof,.string p.name,.int .i64 p.num,.slice p.at_ p.args.length p.cap] 28)
 generalize p.wellB = b1 at HC1 ⊢
 generalize distinctB p.binds = b2 at HC3 ⊢
 generalize p.size = sz at HC4 ⊢
 unfold Pt.val at *
 cases b1
 ·go_enter Tryz.func9,Tryz.ntmps9
  go_wp2_with fail
  refine Calls.mono (HC1.out _ (HI.out.at_ HB0.out HB0.out.size) (HE.out.next HB0.out)) ?_
  rintro e w1 ⟨rfl,hb1⟩
  have HB1:=Lib.hid (HB0.out.trans (hb1.mono HB0.out.size))
  clear hb1
  go_wp2_with fail
  go_ret
  exact ⟨rfl,HB1.out⟩
 ·cases b2
  all_goals
   go_enter Tryz.func9,Tryz.ntmps9
   go_wp2_with fail
   refine Calls.mono (HC1.out _ (HI.out.at_ HB0.out HB0.out.size) (HE.out.next HB0.out)) ?_
   rintro e w1 ⟨rfl,hb1⟩
   have kp:=HK.out.below hb1 HK.out.lt
   obtain ⟨y0,y1,y2,y3⟩:=kp.four
   have yl:=kp.lt
   have HB1:=Lib.hid (HB0.out.trans (hb1.mono HB0.out.size))
   have HK1:=Lib.hid kp
   clear hb1 kp
   go_wp2_with fail
   refine Calls.mono (HC2.out _ (HI.out.at_ HB1.out HB1.out.size)) ?_
   rintro e w2 ⟨hb2,v,rfl,hv⟩
   have kp:=HK1.out.below hb2 HK1.out.lt
   have HB2:=Lib.hid (HB1.out.trans (hb2.mono HB1.out.size))
   have HV:=Lib.hid hv
   clear hb2 y0 y1 y2 y3 yl hv
   obtain ⟨y0,y1,y2,y3⟩:=kp.four
   have yl:=kp.lt
   clear kp
   go_wp2_with fail
   refine Calls.mono (HC3.out _ _ _ HV.out) ?_
   rintro e w3 ⟨rfl,rfl⟩
   go_wp2_with fail
  ·go_ret
   exact ⟨rfl,HB2.out⟩
  ·refine Calls.mono (HC4.out _ (HI.out.at_ HB2.out HB2.out.size)) ?_
   rintro e w4 ⟨rfl,hb4⟩
   have HB4:=Lib.hid (HB2.out.trans (hb4.mono HB2.out.size))
   clear hb4
   go_wp2_with fail
   refine Calls.mono (small_any _ _ _) ?_
   rintro e w5 ⟨rfl,rfl⟩
   go_wp2_with fail
   go_ret
   exact ⟨by simp,HB4.out⟩
end Go.Proofs.YtjeggkfgdhepaaaGreatDoor

namespace Go.Proofs.YtjeggkfgdhepaaaGreatDoor
open Go.RowKit
open Go.Proofs
open Go.Maps (Keyed)
def keyL (s : ByteArray) : Lit:=.string s.data.toList
theorem keyL_inj {a b : ByteArray} (h : keyL a = keyL b) : a = b:=by
 unfold keyL at h
 simp only [Lit.string.injEq] at h
 cases a; cases b
 simp only [ByteArray.mk.injEq]
 exact Array.toList_inj.1 h
open Classical in
noncomputable def rdE {α : Type} (enc : α → Value) (v : Value) : Option (DataW Value × List MemPlace):=if ∃ x,enc x = v then some (.held v,[]) else none
theorem rdE_mk {α : Type} (enc : α → Value) (x : α) : rdE enc (enc x) = some (.held (enc x),[]):=by
 unfold rdE
 rw [if_pos ⟨x,rfl⟩]
theorem rdE_inv {α : Type} {enc : α → Value} {v : Value} {y : DataW Value × List MemPlace} (h : rdE enc v = some y) : (∃ x,v = enc x) ∧ y = (.held v,[]):=by
 unfold rdE at h
 split at h
 ·rename_i hx
  obtain ⟨x,rfl⟩:=hx
  exact ⟨⟨x,rfl⟩,by simpa using h.symm⟩
 ·cases h
def lookL {α : Type} (L : List (ByteArray × α)) (s : ByteArray) : Option α:=(L.find? fun p => p.1.toList == s.toList).map (·.2)
def keysN {α : Type} : List (ByteArray × α) → Nat
 | [] => 0
 | p :: L => if (lookL L p.1).isSome then keysN L else keysN L + 1
theorem lookL_nil {α : Type} (s : ByteArray) : lookL ([] : List (ByteArray × α)) s = none:=rfl
theorem lookL_same {α : Type} (s : ByteArray) (x : α) (L : List (ByteArray × α)) : lookL ((s,x) :: L) s = some x:=by
 unfold lookL
 rw [List.find?_cons_of_pos (by simp)]
 rfl
theorem lookL_other {α : Type} {s s' : ByteArray} (x : α) (L : List (ByteArray × α)) (h : s ≠ s') : lookL ((s,x) :: L) s' = lookL L s':=by
 unfold lookL
 rw [List.find?_cons_of_neg]
 intro e
 exact h (bytes_eq e)
structure NMap {α : Type} (enc : α → Value) (D : DataW Value) (L : List (ByteArray × α)) : Prop where
 tidy : Maps.Tidy D
 at_ : ∀ s x,lookL L s = some x → ∀ z,D.atKey (keyL s) z = .held (enc x)
 has : ∀ s,Maps.has D (keyL s) = (lookL L s).isSome
 keys : ∀ kl,Maps.has D kl = true → ∃ s,kl = keyL s
 size : Maps.size D = keysN L
theorem NMap.nil {α : Type} (enc : α → Value) : NMap enc (.map []) []:=
 ⟨Maps.tidy_empty,fun s x h => by simp [lookL_nil] at h,fun s => rfl,fun kl h => by simp [Maps.has] at h,rfl⟩
theorem NMap.put {α : Type} {enc : α → Value} {D : DataW Value} {L : List (ByteArray × α)} (h : NMap enc D L) (s : ByteArray) (x : α) : NMap enc (D.put (keyL s) (.held (enc x))) ((s,x) :: L):=by
 have hk : WideAt.IsKeyLit (keyL s):=trivial
 refine ⟨h.tidy.put hk _,fun s' x' hl z => ?_,fun s' => ?_,fun kl hh => ?_, ?_⟩
 ·by_cases hs : s = s'
  ·subst hs
   rw [lookL_same] at hl
   simp only [Option.some.injEq] at hl
   subst hl
   exact Maps.atKey_put_same h.tidy.isMap hk _ _
  ·rw [lookL_other _ _ hs] at hl
   rw [Maps.atKey_put_other (fun e => hs (keyL_inj e).symm)]
   exact h.at_ s' x' hl z
 ·by_cases hs : s = s'
  ·subst hs
   rw [lookL_same,Maps.has_put_same h.tidy.isMap hk]
   rfl
  ·rw [lookL_other _ _ hs,Maps.has_put_other (fun e => hs (keyL_inj e).symm)]
   exact h.has s'
 ·by_cases hs : kl = keyL s
  ·exact ⟨s,hs⟩
  ·rw [Maps.has_put_other hs] at hh
   exact h.keys kl hh
 ·rw [Maps.size_put h.tidy,h.has,h.size]
  rfl
theorem lawStr : Keyed Tryz.prog 9:=Maps.string_keyed Tryz.underlying9
def MapAt {α : Type} (enc : α → Value) (w : World) (b n : Nat) (L : List (ByteArray × α)) : Prop:=∃ D,w.ownsMap Tryz.prog 9 (rdE enc) b n D ∧ NMap enc D L
section
variable {α : Type} {enc : α → Value} {w w' : World} {b n : Nat} {L : List (ByteArray × α)}
theorem MapAt.lt (h : MapAt enc w b n L) : b < w.heap.size:=by
 obtain ⟨D,h,-⟩:=h
 exact h.lt
theorem owns_of_block {D : DataW Value} {P : Program} {k : TypeId} {R : Value → Option (DataW Value × List MemPlace)} (h : w.ownsMap P k R b n D) (hb : w'.heap[b]? = w.heap[b]?) : w'.ownsMap P k R b n D:=by
 obtain ⟨es,clock,hh,F,hs,hD⟩:=h
 exact ⟨es,clock,hb.trans hh,F,hs,hD⟩
theorem MapAt.block (h : MapAt enc w b n L) (hb : w'.heap[b]? = w.heap[b]?) : MapAt enc w' b n L:=by
 obtain ⟨D,h,hn⟩:=h
 exact ⟨D,owns_of_block h hb,hn⟩
theorem MapAt.below {B : Nat} (h : MapAt enc w b n L) (hb : Below B w w') (hB : b < B) : MapAt enc w' b n L:=h.block (hb.block b hB)
theorem MapAt.next (h : MapAt enc w b n L) (hb : Below w.heap.size w w') : MapAt enc w' b n L:=h.below hb h.lt
theorem MapAt.made (enc : α → Value) (w : World) : MapAt enc (w.alloc (.map #[] 0)) w.heap.size 0 []:=⟨_,World.ownsMap_made _ _ _ _,NMap.nil enc⟩
theorem maxLen_ge {s : ByteArray} (h : s.size ≤ 1099511627776) : s.size ≤ maxLen:=by unfold maxLen; omega
end
section
variable {α : Type} {enc : α → Value} {ops : Array Oper} {rest : List Oper} {o : Oper} {a : Act} {Q : Exit → Act → World → Prop} {w : World} {b n : Nat} {L : List (ByteArray × α)}
theorem map_put (hg : o.guard = none) (m x v : Operand) (t e : TypeId) (hop : o.op = Op.mapUpdate t m x v) (ht : Tryz.prog.underlying t = some (.map 9 e)) (hm : a.eval m = .map (some b)) (h : MapAt enc w b n L) (hn : n ≤ 1099511627776)
  (s : ByteArray) (hs : s.size ≤ 1099511627776) (hx : a.eval x = .string s) (y : α) (hv : a.eval v = enc y)
  (hK : ∀ w',MapAt enc w' b (n + 1) ((s,y) :: L) → w.grownBy w' (some b) → wpList Tryz.prog ops Q rest (a.put o.dst undef) w') : wpList Tryz.prog ops Q (o :: rest) a w:=by
 obtain ⟨D,hown,hnm⟩:=h
 refine wpList_mapUpdate_own w hg m x v t hop 9 e lawStr ht (rdE enc) b n D hm hown (by unfold maxLen; omega) (.string s) (enc y) (keyL s) hx hv (Go.WideMaps.keyOf_string_mk Tryz.underlying9 (maxLen_ge hs)) (.held (enc y)) [] (rdE_mk enc y) ?_
 intro w' h1 h2
 exact hK w' ⟨_,h1,hnm.put s y⟩ h2
theorem map_look (hg : o.guard = none) (m x : Operand) (t e : TypeId) (hop : o.op = Op.lookup t m x true) (ht : Tryz.prog.underlying t = some (.map 9 e)) (z : α) (hz : (zeroValue e).run Tryz.prog w = .ok (enc z) w) (hm : a.eval m = .map (some b)) (h : MapAt enc w b n L)
  (s : ByteArray) (hs : s.size ≤ 1099511627776) (hx : a.eval x = .string s)
  (hinj : ∀ x y : α,enc x = enc y → x = y)
  (hK : wpList Tryz.prog ops Q rest (a.put o.dst (.tuple #[enc ((lookL L s).getD z),.bool (lookL L s).isSome])) w) : wpList Tryz.prog ops Q (o :: rest) a w:=by
 obtain ⟨D,hown,hnm⟩:=h
 refine wpList_lookup_own_ok w hg m x t hop 9 e lawStr ht (rdE enc) hz (.held (enc z)) [] (rdE_mk enc z) b n D hm hown (.string s) (keyL s) hx (Go.WideMaps.keyOf_string_mk Tryz.underlying9 (maxLen_ge hs)) ?_
 intro v ps hv
 obtain ⟨-,he⟩:=rdE_inv hv
 simp only [Prod.mk.injEq] at he
 rw [hnm.has]
 cases hl : lookL L s with
 | none =>
  have hno : Maps.has D (keyL s) = false:=by rw [hnm.has,hl]; rfl
  have h1:=he.1
  rw [Maps.atKey_of_not_has hno] at h1
  simp only [DataW.held.injEq] at h1
  subst h1
  rw [hl] at hK
  exact hK
 | some y =>
  have h1:=he.1
  rw [hnm.at_ s y hl] at h1
  simp only [DataW.held.injEq] at h1
  subst h1
  rw [hl] at hK
  exact hK
theorem map_len (hg : o.guard = none) (m : Operand) (t e : TypeId) (hop : o.op = Op.call { callee:=Callee.builtin Builtin.len,args:=#[m],argTypes:=#[t] }) (ht : Tryz.prog.underlying t = some (.map 9 e)) (hm : a.eval m = .map (some b)) (h : MapAt enc w b n L)
  (hK : wpList Tryz.prog ops Q rest (a.put o.dst (.int .i64 (keysN L))) w) : wpList Tryz.prog ops Q (o :: rest) a w:=by
 obtain ⟨D,hown,hnm⟩:=h
 refine wpList_len_own w hg m t hop 9 e ht (rdE enc) b n D hm hown ?_
 rw [hnm.size]
 exact hK
def RangeAt {α : Type} (enc : α → Value) (w : World) (b r n : Nat) (L : List (ByteArray × α)) (left : Lit → Bool) (cnt : Nat) : Prop:=
 ∃ D,w.ranges Tryz.prog 9 (rdE enc) b r n D left cnt ∧ NMap enc D L
theorem RangeAt.map {left : Lit → Bool} {cnt r : Nat} (h : RangeAt enc w b r n L left cnt) : MapAt enc w b n L:=by
 obtain ⟨D,h,hn⟩:=h
 exact ⟨D,h.owns,hn⟩
theorem RangeAt.lt {left : Lit → Bool} {cnt r : Nat} (h : RangeAt enc w b r n L left cnt) : r < w.heap.size:=by
 obtain ⟨D,h,hn⟩:=h
 exact h.lt
theorem RangeAt.left_eq {left : Lit → Bool} {cnt r : Nat} (h : RangeAt enc w b r n L left cnt) : w.rangeLeft b r = cnt:=by
 obtain ⟨D,h,hn⟩:=h
 exact h.left_eq
theorem RangeAt.blocks {w' : World} {left : Lit → Bool} {cnt r : Nat} (h : RangeAt enc w b r n L left cnt) (h1 : w'.heap[b]? = w.heap[b]?) (h2 : w'.heap[r]? = w.heap[r]?) : RangeAt enc w' b r n L left cnt:=by
 obtain ⟨D,⟨es,clock,since,seen,c0,a1,a2,a3,a4,a5,rest⟩,hn⟩:=h
 exact ⟨D,⟨es,clock,since,seen,c0,h1.trans a1,a2,a3,a4,h2.trans a5,rest⟩,hn⟩
theorem RangeAt.next {w' : World} {left : Lit → Bool} {cnt r : Nat} (h : RangeAt enc w b r n L left cnt) (hb : Below w.heap.size w w') : RangeAt enc w' b r n L left cnt:=h.blocks (hb.block b h.map.lt) (hb.block r h.lt)
theorem map_range (hg : o.guard = none) (m : Operand) (t e : TypeId) (hop : o.op = Op.range t m) (ht : Tryz.prog.underlying t = some (.map 9 e)) (hm : a.eval m = .map (some b)) (h : MapAt enc w b n L)
  (hK : ∀ w' left cnt,RangeAt enc w' b w.heap.size n L left cnt → (∀ s,left (keyL s) = (lookL L s).isSome) → w.grownBy w' none → w'.heap.size = w.heap.size + 1 → wpList Tryz.prog ops Q rest (a.put o.dst (.pointer (some ⟨w.heap.size,0,none⟩))) w') : wpList Tryz.prog ops Q (o :: rest) a w:=by
 obtain ⟨D,hown,hnm⟩:=h
 refine wpList_range_own w hg m t hop 9 e lawStr ht (rdE enc) b n D hm hown ?_
 intro w' h1 h2 h3
 exact hK w' _ _ ⟨D,h1,hnm⟩ (fun s => hnm.has s) h2 h3
theorem map_next (hg : o.guard = none) (it : Operand) (hop : o.op = Op.next it false) (r : Nat) (left : Lit → Bool) (cnt : Nat) (hit : a.eval it = .pointer (some ⟨r,0,none⟩)) (h : RangeAt enc w b r n L left cnt) (hinj : ∀ x y : α,enc x = enc y → x = y)
  (hDone : (∀ kl,left kl = false) → wpList Tryz.prog ops Q rest (a.put o.dst (.tuple #[.bool false])) w)
  (hMore : ∀ (s : ByteArray) (c : α) (w' : World) (cnt' : Nat),lookL L s = some c → left (keyL s) = true → RangeAt enc w' b r n L (fun z => left z && !z.sameKey (keyL s)) cnt' → cnt' < cnt → w.grownBy w' (some r) → w'.heap.size = w.heap.size →
   (Instr.entry (.pointer (some ⟨r,0,none⟩))).run Tryz.prog w' = .ok (.tuple #[.string s,enc c]) w' → wpList Tryz.prog ops Q rest (a.put o.dst (.tuple #[.bool true,.string s,enc c])) w') : wpList Tryz.prog ops Q (o :: rest) a w:=by
 obtain ⟨D,hrg,hnm⟩:=h
 refine wpList_next_ranges (α:=ByteArray) (β:=α) w hg it hop 9 lawStr (rdE enc) Value.string enc (fun key kl hk => by obtain ⟨s,rfl,-,-⟩:=Go.WideMaps.string_of_keyOf Tryz.underlying9 hk; exact ⟨s,rfl⟩) (fun v y hv => by obtain ⟨⟨x,hx⟩,-⟩:=rdE_inv hv; exact ⟨x,hx⟩) b r n D left cnt hit hrg (fun _ hl => hDone hl) ?_
 intro s c kl y w' cnt' hkey hlk hv hat hrg' hlt hgr hsz hen
 obtain ⟨s',hs',rfl,-⟩:=Go.WideMaps.string_of_keyOf Tryz.underlying9 hkey
 simp only [Value.string.injEq] at hs'
 subst hs'
 obtain ⟨-,hy⟩:=rdE_inv hv
 subst hy
 have hh : Maps.has D (keyL s) = true:=Maps.has_true_of_atKey (y:=.held (enc c)) (fun z => hat z)
 rw [hnm.has] at hh
 obtain ⟨c',hc'⟩:=Option.isSome_iff_exists.1 hh
 have e:=(hat (.held undef)).symm.trans (hnm.at_ s c' hc' _)
 simp only [DataW.held.injEq] at e
 have:=hinj _ _ e
 subst this
 exact hMore s c w' cnt' hc' hlk ⟨D,hrg',hnm⟩ hlt hgr hsz hen
end
end Go.Proofs.YtjeggkfgdhepaaaGreatDoor

namespace Go.Proofs.YtjeggkfgdhepaaaGreatDoor
open Go.RowKit
open Go.Proofs
def partsI (d : ByteArray) : Int:=match Ty.arity d with | some n => n | none => -1
theorem partsI_len (d : ByteArray) (n : Nat) : (partsI d == (n : Int)) = (Ty.arity d == some n):=by
 unfold partsI
 cases h : Ty.arity d with
 | none => rw [Bool.eq_iff_iff]; simp
 | some k => rw [Bool.eq_iff_iff]; simp; omega
set_option maxRecDepth 100000 in
set_option maxHeartbeats 2000000 in
theorem parts_any (d : ByteArray) (w : World) : Calls Tryz.prog 131 #[.string d] w fun e w' => e = .returned (.int .i64 (partsI d)) ∧ w = w':=by
 unfold partsI Ty.arity isDo
 obtain ⟨tint,hint⟩ : ∃ t,(d.toList == [105,110,116]) = t:=⟨_,rfl⟩
 obtain ⟨tbool,hbool⟩ : ∃ t,(d.toList == [98,111,111,108]) = t:=⟨_,rfl⟩
 obtain ⟨tunit,hunit⟩ : ∃ t,(d.toList == [117,110,105,116]) = t:=⟨_,rfl⟩
 obtain ⟨ttext,htext⟩ : ∃ t,(d.toList == [116,101,120,116]) = t:=⟨_,rfl⟩
 obtain ⟨tdata,hdata⟩ : ∃ t,(d.toList == [100,97,116,97]) = t:=⟨_,rfl⟩
 obtain ⟨tvar,hvar⟩ : ∃ t,(d.toList == [118,97,114]) = t:=⟨_,rfl⟩
 obtain ⟨tlist,hlist⟩ : ∃ t,(d.toList == [108,105,115,116]) = t:=⟨_,rfl⟩
 obtain ⟨tarray,harray⟩ : ∃ t,(d.toList == [97,114,114,97,121]) = t:=⟨_,rfl⟩
 obtain ⟨tpair,hpair⟩ : ∃ t,(d.toList == [112,97,105,114]) = t:=⟨_,rfl⟩
 obtain ⟨tfn,hfn⟩ : ∃ t,(d.toList == [102,110]) = t:=⟨_,rfl⟩
 rw [hint,hbool,hunit,htext,hdata,hvar,hlist,harray,hpair,hfn]
 cases tint
 case true =>
  go_enter Tryz.func131,Tryz.ntmps131
  go_wp2_with fail
  go_ret
  exact ⟨rfl,rfl⟩
 cases tbool
 case true =>
  go_enter Tryz.func131,Tryz.ntmps131
  go_wp2_with fail
  go_ret
  exact ⟨rfl,rfl⟩
 cases tunit
 case true =>
  go_enter Tryz.func131,Tryz.ntmps131
  go_wp2_with fail
  go_ret
  exact ⟨rfl,rfl⟩
 cases ttext
 case true =>
  go_enter Tryz.func131,Tryz.ntmps131
  go_wp2_with fail
  go_ret
  exact ⟨rfl,rfl⟩
 cases tdata
 case true =>
  go_enter Tryz.func131,Tryz.ntmps131
  go_wp2_with fail
  go_ret
  exact ⟨rfl,rfl⟩
 cases tvar
 case true =>
  go_enter Tryz.func131,Tryz.ntmps131
  go_wp2_with fail
  go_ret
  exact ⟨rfl,rfl⟩
 cases tlist
 case true =>
  go_enter Tryz.func131,Tryz.ntmps131
  go_wp2_with fail
  go_ret
  exact ⟨rfl,rfl⟩
 cases tarray
 case true =>
  go_enter Tryz.func131,Tryz.ntmps131
  go_wp2_with fail
  go_ret
  exact ⟨rfl,rfl⟩
 cases tpair
 case true =>
  go_enter Tryz.func131,Tryz.ntmps131
  go_wp2_with fail
  go_ret
  exact ⟨rfl,rfl⟩
 cases tfn
 case true =>
  go_enter Tryz.func131,Tryz.ntmps131
  go_wp2_with fail
  go_ret
  exact ⟨rfl,rfl⟩
 go_enter Tryz.func131,Tryz.ntmps131
 go_wp2_with fail
 go_ret
 exact ⟨rfl,rfl⟩
theorem Ty.well_all {d n : ByteArray} {A : Option Addr} {c : Nat} {l : List Ty} (h : Ty.nameOk (kindB .con) d n = true) : (Ty.mk d n A c l).well (kindB .con) = ((partsI d == (l.length : Int)) && l.all fun t => t.well (kindB .con)):=by
 rw [Ty.well_mk,h,partsI_len]
 rfl
theorem Ty.well_no {d n : ByteArray} {A : Option Addr} {c : Nat} {l : List Ty} (h : Ty.nameOk (kindB .con) d n = false) : (Ty.mk d n A c l).well (kindB .con) = false:=by
 rw [Ty.well_mk,h]
 rfl
set_option maxRecDepth 100000 in
set_option maxHeartbeats 4000000 in
theorem type_any : ∀ (t : Ty) (w : World),Env w → t.In w.heap.size w →
  Calls Tryz.prog 109 #[t.val] w fun e w' => e = .returned (.bool (t.well (kindB .con))) ∧ Below w.heap.size w w':=by
 refine Ty.induct fun d n A c l ih w he hin => ?_
 obtain ⟨hd,hn,hl,-,hrow,hall⟩:=Ty.In_mk.1 hin
 have HR:=Lib.hid hrow
 have HA:=Lib.hid hall
 have IH:=Lib.hid ih
 have HE:=Lib.hid he
 clear hin hrow hall ih he
 have HB0:=Lib.hid ((Below.refl w.heap.size w).alloc (Nat.le_refl _) (.cells #[.string d,.string n,.slice A l.length c] 25))
 have HK:=Lib.hid (Blk.new w #[.string d,.string n,.slice A l.length c] 25)
 unfold Ty.val
 simp only [Ty.dof,Ty.name,Ty.at_,Ty.cap,Ty.args]
 have HNO : Hid (∀ (e : Ending) (w' : World),Below w.heap.size w w' → Ty.nameOk (kindB .con) d n = false → e = .returned (.bool false) → e = .returned (.bool ((Ty.mk d n A c l).well (kindB .con))) ∧ Below w.heap.size w w'):=Lib.hid fun e w' h h1 h2 => ⟨by rw [Ty.well_no h1]; exact h2,h⟩
 go_enter Tryz.func109,Tryz.ntmps109
 go_upto_block 0 with (fail)
 go_cut [] (fun wx => Hid (Ty.nameOk (kindB .con) d n = true) ∧ Hid (Below w.heap.size w wx) ∧ Hid (Blk wx w.heap.size #[.string d,.string n,.slice A l.length c] 25))
 case first =>
  generalize w.alloc (.cells #[.string d,.string n,.slice A l.length c] 25) = w0 at HB0 HK ⊢
  obtain ⟨y0,y1,y2⟩:=HK.out.three
  have yl:=HK.out.lt
  obtain ⟨tdata,hdata⟩ : ∃ t,(d.toList == [100,97,116,97]) = t:=⟨_,rfl⟩
  cases tdata
  case true =>
   have hnv:=do_other (b:=[118,97,114]) hdata (by decide)
   have hc:=is_con n (by omega)
   have hok : Ty.nameOk (kindB .con) d n = kindB .con n:=by
    unfold Ty.nameOk isDo
    rw [hdata,if_pos rfl]
   generalize kindB .con n = cb at hc hok
   have HC:=Lib.hid hc
   have HOK:=Lib.hid hok
   clear hc hok
   cases cb
   ·go_wp2_with fail
    refine Calls.mono (HC.out _ (HE.out.next HB0.out)) ?_
    rintro e w1 ⟨rfl,hb1⟩
    have HB1:=Lib.hid (HB0.out.trans (hb1.mono HB0.out.size))
    clear hb1
    go_wp2_with fail
    go_ret
    exact HNO.out _ _ HB1.out HOK.out rfl
   ·go_wp2_with fail
    refine Calls.mono (HC.out _ (HE.out.next HB0.out)) ?_
    rintro e w1 ⟨rfl,hb1⟩
    have HB1:=Lib.hid (HB0.out.trans (hb1.mono HB0.out.size))
    have HK1:=Lib.hid (HK.out.below hb1 HK.out.lt)
    clear hb1 y0 y1 y2 yl
    obtain ⟨y0,y1,y2⟩:=HK1.out.three
    have yl:=HK1.out.lt
    go_wp2_with fail
    go_meet
    exact ⟨HOK.out,HB1.out,HK1.out⟩
  obtain ⟨tvar,hvar⟩ : ∃ t,(d.toList == [118,97,114]) = t:=⟨_,rfl⟩
  cases tvar
  case true =>
   have hc:=isVar_any n (by omega)
   have hok : Ty.nameOk (kindB .con) d n = isTyVar n:=by
    unfold Ty.nameOk isDo
    rw [hdata,hvar]
    rfl
   generalize isTyVar n = cb at hc hok
   have HC:=Lib.hid hc
   have HOK:=Lib.hid hok
   clear hc hok
   cases cb
   ·go_wp2_with fail
    refine Calls.mono (HC.out _) ?_
    rintro e w1 ⟨rfl,hb1⟩
    have HB1:=Lib.hid (HB0.out.trans (hb1.mono HB0.out.size))
    clear hb1
    go_wp2_with fail
    go_ret
    exact HNO.out _ _ HB1.out HOK.out rfl
   ·go_wp2_with fail
    refine Calls.mono (HC.out _) ?_
    rintro e w1 ⟨rfl,hb1⟩
    have HB1:=Lib.hid (HB0.out.trans (hb1.mono HB0.out.size))
    have HK1:=Lib.hid (HK.out.below hb1 HK.out.lt)
    clear hb1 y0 y1 y2 yl
    obtain ⟨y0,y1,y2⟩:=HK1.out.three
    have yl:=HK1.out.lt
    go_wp2_with fail
    go_meet
    exact ⟨HOK.out,HB1.out,HK1.out⟩
  have hok : Ty.nameOk (kindB .con) d n = (n.toList == []):=by
   unfold Ty.nameOk isDo
   rw [hdata,hvar]
   rfl
  obtain ⟨te,hte⟩ : ∃ t,(n.toList == []) = t:=⟨_,rfl⟩
  rw [hte] at hok
  have hte2 : n.toList.isEmpty = te:=by rw [← hte]; cases n.toList <;> rfl
  have HOK:=Lib.hid hok
  clear hok
  cases te
  ·go_wp2_with fail
   go_ret
   exact HNO.out _ _ HB0.out HOK.out rfl
  ·go_wp2_with fail
   go_meet
   exact ⟨HOK.out,HB0.out,HK.out⟩
 case rest =>
  obtain ⟨HOK,HB,HKX⟩:=hcut
  have hwa:=Ty.well_all (A:=A) (c:=c) (l:=l) HOK.out
  obtain ⟨y0,y1,y2⟩:=HKX.out.three
  have yl:=HKX.out.lt
  have hpa:=parts_any d
  generalize partsI d = pi at hpa hwa
  have HPA:=Lib.hid hpa
  clear hpa
  obtain ⟨b,hb⟩ : ∃ b,(pi == (l.length : Int)) = b:=⟨_,rfl⟩
  rw [hb] at hwa
  have HWA:=Lib.hid hwa
  clear hwa
  have hcont:=containsTy 132 (enters_of Tryz.func132 (by kernel_rfl) rfl) #[] l A c wc.drew
   (fun k W => Below wc.heap.size wc W ∧ (l.take k).all (fun t => t.well (kindB .con)) = true) (fun k W => Below wc.heap.size wc W ∧ (l.all fun t => t.well (kindB .con)) = false) hl
   (fun k W hh => ⟨_,HR.out.keep (HB.out.trans (hh.1.mono HB.out.size))⟩) ⟨(Below.refl _ _).drew,rfl⟩
   (fun k W q hq ⟨hb,hw⟩ => by
    have hm:=List.mem_of_getElem? hq
    have hbw:=HB.out.trans (hb.mono HB.out.size)
    have hqi:=(HA.out q hm).at_ hbw hbw.size
    have hev:=HE.out.next hbw
    have HB2:=Lib.hid ((Below.refl W.heap.size W).alloc (Nat.le_refl _) (.cells #[.string q.dof,.string q.name,.slice q.at_ q.args.length q.cap] 25))
    have HCC:=Lib.hid (IH.out q hm _ (hev.next HB2.out) (hqi.next HB2.out))
    have hcl : Calls Tryz.prog 132 (#[q.val] ++ #[]) W fun e W' => e = .returned (.bool (!q.well (kindB .con))) ∧ Below W.heap.size W W':=by
     clear hqi hev hbw hb hw
     unfold Ty.val at *
     show Calls _ _ #[_] _ _
     go_enter Tryz.func132,Tryz.ntmps132
     go_wp2_with fail
     refine Calls.mono HCC.out ?_
     rintro e w1 ⟨rfl,hb1⟩
     have HB3:=Lib.hid (HB2.out.trans (hb1.mono HB2.out.size))
     clear hb1
     go_wp2_with fail
     go_ret
     exact ⟨rfl,HB3.out⟩
    refine Calls.mono hcl ?_
    rintro e W' ⟨rfl,hb2⟩
    have hb3:=hb.trans (hb2.mono hb.size)
    cases hr : q.well (kindB .con)
    ·refine .inl ⟨rfl,hb3, ?_⟩
     rw [List.all_eq_false]
     exact ⟨q,hm,by rw [hr]; simp⟩
    ·refine .inr ⟨rfl,hb3, ?_⟩
     rw [List.take_add_one,hq]
     simp [List.all_append,hw,hr])
  have HCONT:=Lib.hid hcont
  clear hcont
  cases b
  ·go_wp2_with fail
   refine region_tail 10 (by kernel_rfl) (by kernel_rfl) ?_
   simp only [List.take_succ_cons,List.take_zero,List.drop_succ_cons,List.drop_zero]
   iterate 2 still_step
   refine wpStill_step (fun K hK => ?_)
   go_simp
   refine ⟨_,(HPA.out _).mono fun _ _ ⟨h,h'⟩ => ⟨h,h'.symm⟩,hK _ ?_⟩
   clear hK K
   repeat still_step
   refine wpStill_nil ?_
   go_wp2_with fail
   go_ret
   exact ⟨by rw [HWA.out]; rfl,HB.out.drew⟩
  ·go_wp2_with fail
   refine region_tail 10 (by kernel_rfl) (by kernel_rfl) ?_
   simp only [List.take_succ_cons,List.take_zero,List.drop_succ_cons,List.drop_zero]
   iterate 2 still_step
   refine wpStill_step (fun K hK => ?_)
   go_simp
   refine ⟨_,(HPA.out _).mono fun _ _ ⟨h,h'⟩ => ⟨h,h'.symm⟩,hK _ ?_⟩
   clear hK K
   repeat still_step
   refine wpStill_nil ?_
   go_wp2_with fail
   refine Calls.mono HCONT.out ?_
   rintro e w1 (⟨i,hi,rfl,hb1,hno⟩ | ⟨rfl,hb1,hyes⟩)
   ·have HB1:=Lib.hid (HB.out.trans (hb1.mono HB.out.size))
    have HN:=Lib.hid hno
    clear hb1 hno
    go_wp2_with fail
    go_ret
    exact ⟨by rw [HWA.out,HN.out]; rfl,HB1.out⟩
   ·have HB1:=Lib.hid (HB.out.trans (hb1.mono HB.out.size))
    rw [List.take_length] at hyes
    have HN:=Lib.hid hyes
    clear hb1 hyes
    go_wp2_with fail
    go_ret
    exact ⟨by rw [HWA.out,HN.out]; rfl,HB1.out⟩
set_option maxHeartbeats 1000000 in
theorem validType_any (t : Ty) (w : World) (h : Env w) (hin : t.In w.heap.size w) :
  Calls Tryz.prog 69 #[t.val] w fun e w' => e = .returned (.bool (t.valid (kindB .con))) ∧ Below w.heap.size w w':=by
 have HE:=Lib.hid h
 have HI:=Lib.hid hin
 have HC1:=Lib.hid (fun (W : World) (hp : t.In W.heap.size W) (he : Env W) => type_any t W he hp)
 have HC2:=Lib.hid (fun (W : World) (hp : t.In W.heap.size W) => ofType_any t W hp)
 unfold Ty.valid
 clear h hin
 have HB0:=Lib.hid ((Below.refl w.heap.size w).alloc (Nat.le_refl _) (.cells #[.string t.dof,.string t.name,.slice t.at_ t.args.length t.cap] 25))
 generalize t.well (kindB .con) = ok at HC1 ⊢
 generalize t.size = sz at HC2 ⊢
 unfold Ty.val at *
 cases ok
 all_goals
  go_enter Tryz.func69,Tryz.ntmps69
  go_wp2_with fail
  refine Calls.mono (HC1.out _ (HI.out.at_ HB0.out HB0.out.size) (HE.out.next HB0.out)) ?_
  rintro e w1 ⟨rfl,hb1⟩
  obtain ⟨y0,y1,y2⟩:=Blk.three ((Blk.new w _ _).below hb1 (by simp))
  have HB1:=Lib.hid (HB0.out.trans (hb1.mono HB0.out.size))
  have yl : w.heap.size < w1.heap.size:=by have:=hb1.size; simp at this; omega
  clear hb1
  go_wp2_with fail
 ·go_ret
  exact ⟨rfl,HB1.out⟩
 ·refine Calls.mono (HC2.out _ (HI.out.at_ HB1.out HB1.out.size)) ?_
  rintro e w2 ⟨rfl,hb2⟩
  have HB2:=Lib.hid (HB1.out.trans (hb2.mono HB1.out.size))
  clear hb2
  go_wp2_with fail
  refine Calls.mono (fits_any _ _ _) ?_
  rintro e w3 ⟨rfl,hb3⟩
  have HB3:=Lib.hid (HB2.out.trans (hb3.mono HB2.out.size))
  clear hb3
  go_wp2_with fail
  go_ret
  exact ⟨by simp,HB3.out⟩
end Go.Proofs.YtjeggkfgdhepaaaGreatDoor
