/- The reference's inhabited: which datatypes have a value. -/
import Derived.Test.YtjeggkfgdhepaaaGreatDoorG12
import Derived.Laws.MakeOwn
import Derived.Laws.OwnMore
set_option linter.unusedVariables false
set_option linter.unusedSimpArgs false
namespace Go.Proofs.YtjeggkfgdhepaaaGreatDoor
open Go.RowKit
open Go.Proofs
open Go.Maps
def bArr (bs : List Bool) : Array Value:=(bs.map Value.bool).toArray
theorem bArr_set (bs : List Bool) (i : Nat) (b : Bool) : (bArr bs).setIfInBounds i (.bool b) = bArr (bs.set i b):=by
 unfold bArr
 rw [List.setIfInBounds_toArray,← List.map_set]
theorem bArr_get {bs : List Bool} {i : Nat} {b : Bool} (h : bs[i]? = some b) : (bArr bs)[i]? = some (.bool b):=by
 unfold bArr
 rw [List.getElem?_toArray,List.getElem?_map,h]
 rfl
theorem bools_blk {W : World} {g : Nat} {bs : List Bool} {T : TypeId} (h : Blk W g (bArr bs) T) : BoolsAt W.heap.size W (some ⟨g,0,none⟩) bs:=by
 intro _
 refine ⟨g,0,rfl,h.lt,fun i x hi j v hj => ?_⟩
 rw [List.getElem?_map] at hi
 obtain ⟨b,hb,rfl⟩:=Option.map_eq_some_iff.1 hi
 rcases j with _ | j
 ·simp only [List.getElem?_cons_zero,Option.some.injEq] at hj
  subst hj
  rw [Nat.mul_one,Nat.zero_add,Nat.add_zero,h.cell,bArr_get hb]
 ·simp at hj
theorem infoBool : (Tryz.prog.info? 4).map (fun i => (i.zero,i.size,i.bytes)) = some (some (.bool false),1,1):=by kernel_rfl
theorem made_bools (n : Nat) : madeCells (Value.cells (.bool false)) n = bArr (List.replicate n false):=by
 have h : (madeCells #[.bool false] n).toList = (bArr (List.replicate n false)).toList:=by
  rw [toList_madeCells_one]
  unfold bArr
  simp
 exact Array.toList_inj.1 h
structure Gr (bs0 bs : List Bool) : Prop where
 len : bs.length = bs0.length
 le : ∀ i : Nat,bs0[i]? = some true → bs[i]? = some true
def RealB (l : List Dt) (bs : List Bool) : Prop:=∀ (i : Nat) (d : Dt),l[i]? = some d → bs[i]? = some true → ∃ c ∈ d.cons,c.has = false ∨ ∃ v,Val l c.ty v
def ClosedTo (l : List Dt) (bs : List Bool) (i j : Nat) : Prop:=∀ (i' : Nat) (d : Dt),l[i']? = some d → ∀ (j' : Nat) (c : Cn),d.cons[j']? = some c → (i' < i ∨ (i' = i ∧ j' < j)) → conHas (someB l bs) c = true → bs[i']? = some true
def StableB (l : List Dt) (bs : List Bool) : Prop:=ClosedTo l bs l.length 0
structure InR (l : List Dt) (bs0 bs : List Bool) (i j : Nat) : Prop where
 gr : Gr bs0 bs
 stay : StableB l bs0 → bs = bs0
 closed : bs = bs0 → ClosedTo l bs0 i j
 real : RealB l bs
 len : bs.length = l.length
theorem someB_at {l : List Dt} (hr : Right l) {bs : List Bool} {i : Nat} {d : Dt} {b : Bool} (hd : l[i]? = some d) (hb : bs[i]? = some b) : someB l bs d.name = b:=by
 refine someB_hit hd (by simp) hb fun j x hj hx => ?_
 cases h : (x.name.toList == d.name.toList) with
 | false => rfl
 | true =>
  have hn : x.name = d.name:=bytes_of (by simpa using h)
  have hnd : (l.map Dt.name).Nodup:=by have:=hr.names; unfold distinctB at this; simpa using this
  have h1 : (l.map Dt.name)[j]? = some d.name:=by rw [List.getElem?_map,hx,Option.map_some,hn]
  have h2 : (l.map Dt.name)[i]? = some d.name:=by rw [List.getElem?_map,hd]; rfl
  have hji:=(List.getElem?_inj (List.getElem?_eq_some_iff.1 h1).1 hnd).1 (h1.trans h2.symm)
  omega
theorem realB_S {l : List Dt} (hr : Right l) {bs : List Bool} (hlen : bs.length = l.length) (h : RealB l bs) : ∀ d ∈ l,someB l bs d.name = true → ∃ c ∈ d.cons,c.has = false ∨ ∃ v,Val l c.ty v:=by
 intro d hd hs
 obtain ⟨i,hi⟩:=List.getElem?_of_mem hd
 have hlt:=(List.getElem?_eq_some_iff.1 hi).1
 have hb : bs[i]? = some bs[i]:=List.getElem?_eq_getElem (by omega)
 rw [someB_at hr hi hb] at hs
 exact h i d hi (by rw [hb,hs])
theorem inR_step {l : List Dt} (hr : Right l) {bs0 bs : List Bool} {i j : Nat} (h : InR l bs0 bs i j) {d : Dt} {c : Cn} {b : Bool} (hd : l[i]? = some d) (hc : d.cons[j]? = some c) (hb : bs[i]? = some b) : InR l bs0 (bs.set i (b || conHas (someB l bs) c)) i (j + 1):=by
 have hi:=(List.getElem?_eq_some_iff.1 hb).1
 have hset : ∀ x : Bool,(bs.set i x)[i]? = some x:=fun x => by rw [List.getElem?_set_self hi]
 have hoth : ∀ (x : Bool) (k : Nat),k ≠ i → (bs.set i x)[k]? = bs[k]?:=fun x k hk => by rw [List.getElem?_set_ne (Ne.symm hk)]
 have hsame : b = true ∨ conHas (someB l bs) c = false → bs.set i (b || conHas (someB l bs) c) = bs:=by
  intro hh
  have e : (b || conHas (someB l bs) c) = b:=by
   rcases hh with h | h
   ·rw [h]; rfl
   ·rw [h,Bool.or_false]
  rw [e]
  refine List.ext_getElem? fun k => ?_
  by_cases hk : k = i
  ·subst hk; rw [hset,hb]
  ·exact hoth _ _ hk
 have hreal : RealB l (bs.set i (b || conHas (someB l bs) c)):=by
  intro k e he hk
  by_cases hki : k = i
  ·subst hki
   rw [hd] at he
   cases he
   rw [hset] at hk
   simp only [Option.some.injEq,Bool.or_eq_true] at hk
   rcases hk with hk | hk
   ·exact h.real k d hd (by rw [hb,hk])
   ·refine ⟨c,List.mem_of_getElem? hc, ?_⟩
    unfold conHas at hk
    cases hh : c.has with
    | false => exact .inl rfl
    | true =>
     rw [hh] at hk
     simp only [Bool.not_true,Bool.false_or] at hk
     have hok:=((hr.cons d (List.mem_of_getElem? hd)).2 c (List.mem_of_getElem? hc)).2 hh
     exact .inr (hasV_real hr (realB_S hr h.len h.real) c.ty hok hk)
  ·rw [hoth _ _ hki] at hk
   exact h.real k e he hk
 by_cases hch : b = true ∨ conHas (someB l bs) c = false
 ·rw [hsame hch]
  refine ⟨h.gr,h.stay,fun he => ?_,h.real,h.len⟩
  intro i' d' hd' j' c' hc' hij hcon
  by_cases hlast : i' = i ∧ j' = j
  ·obtain ⟨rfl,rfl⟩:=hlast
   rw [hd] at hd'
   cases hd'
   rw [hc] at hc'
   cases hc'
   rcases hch with hch | hch
   ·rw [← he,hb,hch]
   ·rw [← he,hch] at hcon; cases hcon
  ·exact h.closed he i' d' hd' j' c' hc' (by omega) hcon
 ·simp only [not_or,Bool.not_eq_true,Bool.not_eq_false] at hch
  obtain ⟨hb0,hc1⟩:=hch
  subst hb0
  have hnew : ∀ k : Nat,bs[k]? = some true → (bs.set i (false || conHas (someB l bs) c))[k]? = some true:=fun k hk => by
   by_cases hki : k = i
   ·subst hki; rw [hset,hc1]; rfl
   ·rw [hoth _ _ hki]; exact hk
  have hne : bs.set i (false || conHas (someB l bs) c) ≠ bs0:=by
   intro he
   have h1:=hset (false || conHas (someB l bs) c)
   rw [he,hc1] at h1
   have:=h.gr.le i h1
   rw [hb] at this
   cases this
  refine ⟨⟨by rw [List.length_set]; exact h.gr.len,fun k hk => hnew k (h.gr.le k hk)⟩,fun hst => ?_,fun he => absurd he hne,hreal,by rw [List.length_set]; exact h.len⟩
  exfalso
  have he:=h.stay hst
  have h1:=hst i d hd j c hc (.inl (List.getElem?_eq_some_iff.1 hd).1) (by rw [← he]; exact hc1)
  rw [← he,hb] at h1
  cases h1
theorem count_le (bs0 bs : List Bool) (h : Gr bs0 bs) (hne : bs ≠ bs0) : bs0.count true + 1 ≤ bs.count true:=by
 induction bs0 generalizing bs with
 | nil =>
  have:=h.len
  simp only [List.length_nil] at this
  exact absurd (List.eq_nil_of_length_eq_zero this) hne
 | cons a bs0 ih =>
  cases bs with
  | nil => have:=h.len; simp at this
  | cons b bs =>
   have hg : Gr bs0 bs:=⟨by have:=h.len; simpa using this,fun i hi => by have:=h.le (i + 1) (by simpa using hi); simpa using this⟩
   have h0:=h.le 0
   simp only [List.getElem?_cons_zero,Option.some.injEq] at h0
   by_cases hs : bs = bs0
   ·subst hs
    cases a with
    | true => rw [h0 rfl] at hne; exact absurd rfl hne
    | false =>
     cases b with
     | true => simp
     | false => exact absurd rfl hne
   ·have:=ih bs hg hs
    cases a with
    | true => rw [h0 rfl]; simp; omega
    | false => cases b <;> simp <;> omega
theorem all_true {bs : List Bool} (h : bs.length ≤ bs.count true) : ∀ b ∈ bs,b = true:=by
 have h1 : bs.count true = bs.length:=by have:=List.count_le_length (a:=true) (l:=bs); omega
 intro b hb
 exact (List.count_eq_length.1 h1 b hb).symm
theorem inh_end {l : List Dt} (hr : Right l) {bs : List Bool} (hlen : bs.length = l.length) (hreal : RealB l bs) (h : StableB l bs ∨ l.length ≤ bs.count true) : Inh l (someB l bs):=by
 refine ⟨realB_S hr hlen hreal,fun d hd c hc hcon => ?_⟩
 obtain ⟨i,hi⟩:=List.getElem?_of_mem hd
 have hlt:=(List.getElem?_eq_some_iff.1 hi).1
 have hb : bs[i]? = some bs[i]:=List.getElem?_eq_getElem (by omega)
 rw [someB_at hr hi hb]
 rcases h with h | h
 ·obtain ⟨j,hj⟩:=List.getElem?_of_mem hc
  have:=h i d hi j c hj (.inl hlt) hcon
  rw [hb] at this
  simpa using this
 ·exact all_true (by omega) _ (List.getElem_mem _)
theorem inR_start {l : List Dt} {bs : List Bool} (hreal : RealB l bs) (hlen : bs.length = l.length) : InR l bs bs 0 0:=⟨⟨rfl,fun _ h => h⟩,fun _ => rfl,fun _ i' d _ j' c _ hij => by omega,hreal,hlen⟩
theorem inR_next {l : List Dt} {bs0 bs : List Bool} {i : Nat} {d : Dt} (h : InR l bs0 bs i d.cons.length) (hd : l[i]? = some d) : InR l bs0 bs (i + 1) 0:=
 ⟨h.gr,h.stay,fun he i' d' hd' j' c' hc' hij hcon => by
  refine h.closed he i' d' hd' j' c' hc' ?_ hcon
  by_cases hi : i' = i
  ·subst hi
   rw [hd] at hd'
   cases hd'
   have:=(List.getElem?_eq_some_iff.1 hc').1
   omega
  ·omega,h.real,h.len⟩
theorem round_end {l : List Dt} {bs0 bs : List Bool} {r : Nat} (h : InR l bs0 bs l.length 0) (h0 : StableB l bs0 ∨ r ≤ bs0.count true) : StableB l bs ∨ r + 1 ≤ bs.count true:=by
 by_cases he : bs = bs0
 ·rw [he]
  exact .inl (h.closed he)
 ·rcases h0 with h0 | h0
  ·exact absurd (h.stay h0) he
  ·have:=count_le bs0 bs h.gr he
   exact .inr (by omega)
structure InhAt (l : List Dt) (w : World) (g : Nat) (bs : List Bool) (W : World) : Prop where
 bel : Below w.heap.size w W
 ge : w.heap.size ≤ g
 blk : Blk W g (bArr bs) 4
 len : bs.length = l.length
theorem InhAt.next {l : List Dt} {w W W1 : World} {g : Nat} {bs : List Bool} (h : InhAt l w g bs W) (hb : Below W.heap.size W W1) : InhAt l w g bs W1:=⟨h.bel.trans (hb.mono h.bel.size),h.ge,h.blk.below hb h.blk.lt,h.len⟩
theorem InhAt.set {l : List Dt} {w W : World} {g : Nat} {bs : List Bool} (h : InhAt l w g bs W) (i : Nat) (b : Bool) : InhAt l w g (bs.set i b) (W.setCell ⟨g,i,none⟩ (.bool b)):=
 ⟨h.bel.setCell h.ge _,h.ge,(h.blk.set i (.bool b)).cast (bArr_set bs i b),by rw [List.length_set]; exact h.len⟩
def InhPost (l : List Dt) (w : World) (e : Ending) (w' : World) : Prop:=Below w.heap.size w w' ∧ ∃ (g : Nat) (bs : List Bool),e = .returned (.slice (some ⟨g,0,none⟩) bs.length bs.length) ∧ bs.length = l.length ∧ BoolsAt w'.heap.size w' (some ⟨g,0,none⟩) bs ∧ Inh l (someB l bs)
end Go.Proofs.YtjeggkfgdhepaaaGreatDoor

namespace Go.Proofs.YtjeggkfgdhepaaaGreatDoor
open Go.RowKit
open Go.Proofs
open Go.Maps
set_option maxRecDepth 100000 in
set_option maxHeartbeats 8000000 in
theorem inhabited_any (A : Option Addr) (l : List Dt) (c : Nat) (w : World) (hr : Right l) (hd : DtsIn w.heap.size w A l) (hdl : ∀ d ∈ l,d.cons.length ≤ 1048576) :
  Calls Tryz.prog 41 #[.slice A l.length c] w (InhPost l w):=by
 have HR:=Lib.hid hr
 have HD:=Lib.hid hd
 have HDL:=Lib.hid hdl
 have hl:=hd.len
 obtain ⟨i0,hi,hz0,hz1,hz2⟩:=info_parts infoBool
 have hmk:=run_makeSlice (P:=Tryz.prog) w 76 4 i0 (.bool false) Tryz.underlying76 hi hz0 .i64 .i64 (l.length : Int) (l.length : Int) (by omega) (Int.le_refl _) (by rw [hz1]; simp; omega) (by rw [hz2]; omega) (by omega)
 rw [hz1,made_bools] at hmk
 simp only [Int.toNat_natCast,Nat.mul_one] at hmk
 have H0:=Lib.hid (show InhAt l w w.heap.size (List.replicate l.length false) (w.alloc (.cells (bArr (List.replicate l.length false)) 4)) from ⟨(Below.refl _ _).alloc (Nat.le_refl _) _,Nat.le_refl _,Blk.new w _ _,by simp⟩)
 have HQ0:=Lib.hid (show RealB l (List.replicate l.length false) from fun i d _ hb => by
  rw [List.getElem?_replicate] at hb
  split at hb <;> cases hb)
 clear hr hd hdl hi hz0 hz1 hz2
 unfold InhPost
 go_enter Tryz.func41,Tryz.ntmps41
 go_wp2_with fail
 clear hmk
 generalize List.replicate l.length false = bz at H0 HQ0 ⊢
 generalize w.alloc (.cells (bArr bz) 4) = w0 at H0 ⊢
 generalize hg : w.heap.size = g at H0 ⊢
 have HG:=Lib.hid hg
 clear hg
 go_loopw [13] (fun iv wr => ∃ (r : Nat) (bs : List Bool),iv = .int .i64 r ∧ r ≤ l.length ∧ Hid (InhAt l w g bs wr) ∧ Hid (RealB l bs) ∧ Hid (StableB l bs ∨ r ≤ bs.count true)) (fun iv _ => l.length - (intOf iv).toNat)
 case atStart => exact ⟨0,bz,rfl,Nat.zero_le _,H0.out,HQ0.out,Lib.hid (.inr (Nat.zero_le _))⟩
 case round =>
  obtain ⟨r,bs0,rfl,hr,HI0,HQ,HS⟩:=hrel
  by_cases hlt : r < l.length
  ·obtain ⟨wo,rfl⟩ : ∃ wo : World,wo = wr:=⟨_,rfl⟩
   go_wp2_with fail
   go_loopw [17] (fun iv wr => ∃ (i : Nat) (bs : List Bool),iv = .int .i64 i ∧ i ≤ l.length ∧ Hid (InhAt l w g bs wr) ∧ Hid (InR l bs0 bs i 0)) (fun iv _ => l.length - (intOf iv).toNat)
   case atStart => exact ⟨0,bs0,rfl,Nat.zero_le _,HI0.out,Lib.hid (inR_start HQ.out HI0.out.len)⟩
   case round =>
    obtain ⟨i,bs1,rfl,hi,HI1,HR1⟩:=hrel
    by_cases hlt1 : i < l.length
    ·obtain ⟨q,b,off,hq,hmem,rfl,hb,x0,x1⟩:=Dt.arg_at HD.out.row HI1.out.bel hlt1
     have HQ1:=Lib.hid hq
     have HQM:=Lib.hid hmem
     have hql:=HDL.out q hmem
     obtain ⟨wm,rfl⟩ : ∃ wm : World,wm = wr:=⟨_,rfl⟩
     have HI2:=Lib.hid (HI1.out.next ((Below.refl wm.heap.size wm).alloc (Nat.le_refl _) (.cells #[.string q.name,.slice q.at_ q.cons.length q.cap] 111)))
     clear hq hmem
     go_wp2_with fail
     clear x0 x1
     generalize wm.alloc (.cells #[.string q.name,.slice q.at_ q.cons.length q.cap] 111) = w2 at HI2 ⊢
     go_loopw [25] (fun iv wr => ∃ (j : Nat) (bs : List Bool),iv = .int .i64 j ∧ j ≤ q.cons.length ∧ Hid (InhAt l w g bs wr) ∧ Hid (InR l bs0 bs i j)) (fun iv _ => q.cons.length - (intOf iv).toNat)
     case atStart => exact ⟨0,bs1,rfl,Nat.zero_le _,HI2.out,HR1.out⟩
     case round =>
      obtain ⟨j,bs,rfl,hj,HI3,HR3⟩:=hrel
      by_cases hlt2 : j < q.cons.length
      ·obtain ⟨x,b5,off5,hq5,hm5,hat5,hb5,z0,z1,z2,z3,z4⟩:=Cn.arg_at (HD.out.each q HQM.out).2.2.2.1 HI3.out.bel hlt2
       have HQ5:=Lib.hid hq5
       rw [hat5]
       have HXI:=Lib.hid ((HD.out.each q HQM.out).2.2.2.2 x hm5)
       have HOK:=Lib.hid (fun (hh : x.has = true) => ((HR.out.cons q HQM.out).2 x hm5).2 hh)
       obtain ⟨bv,hbv⟩ : ∃ bv,bs[i]? = some bv:=⟨_,List.getElem?_eq_getElem (by have:=HI3.out.len; omega)⟩
       have HBV:=Lib.hid hbv
       have hcell : wr.cell? ⟨g,i,none⟩ = some (.bool bv):=(HI3.out.blk.cell i).trans (bArr_get hbv)
       have hfree:=HI3.out.blk.free i
       have hglt:=HI3.out.blk.lt
       have HSTEP:=Lib.hid (inR_step HR.out HR3.out HQ1.out HQ5.out hbv)
       have HI4:=Lib.hid (HI3.out.next ((Below.refl wr.heap.size wr).alloc (Nat.le_refl _) (.cells #[.string x.name,.bool x.has,.string x.ty.dof,.string x.ty.name,.slice x.ty.at_ x.ty.args.length x.ty.cap] 117)))
       have KX:=Lib.hid (Blk.new wr #[.string x.name,.bool x.has,.string x.ty.dof,.string x.ty.name,.slice x.ty.at_ x.ty.args.length x.ty.cap] 117)
       have hcell4 : (wr.alloc (.cells #[.string x.name,.bool x.has,.string x.ty.dof,.string x.ty.name,.slice x.ty.at_ x.ty.args.length x.ty.cap] 117)).cell? ⟨g,i,none⟩ = some (.bool bv):=(HI4.out.blk.cell i).trans (bArr_get hbv)
       have hfree4:=HI4.out.blk.free i
       have HCALL:=Lib.hid (fun (hh : x.has = true) (W : World) (hW : InhAt l w g bs W) => (by
        have h:=hasVal_any (some ⟨b,off,none⟩) l c (some ⟨g,0,none⟩) bs bs.length hW.len x.ty W (HOK.out hh) (HXI.out.2.at_ hW.bel hW.bel.size) (HD.out.next hW.bel) (bools_blk hW.blk)
        rw [hW.len] at h
        exact h : Calls Tryz.prog 80 #[.slice (some ⟨b,off,none⟩) l.length c,.slice (some ⟨g,0,none⟩) l.length l.length,x.ty.val] W fun e w' => e = .returned (.bool (hasV (someB l bs) x.ty)) ∧ Below W.heap.size W w'))
       unfold conHas at HSTEP
       unfold Ty.val at HCALL
       clear hq5 hm5 hbv
       cases bv
       case true =>
        have HSX:=Lib.hid (show InR l bs0 (bs.set i true) i (j + 1) by simpa using HSTEP.out)
        have HI5:=Lib.hid (HI4.out.set i true)
        have HI5a:=Lib.hid ((HI3.out.set i true).next ((Below.refl _ _).alloc (Nat.le_refl _) (.cells #[.string x.name,.bool x.has,.string x.ty.dof,.string x.ty.name,.slice x.ty.at_ x.ty.args.length x.ty.cap] 117)))
        go_wp2_with fail
        refine ⟨⟨j + 1,bs.set i true,by go_num,by omega, ?_,HSX.out⟩,by simp [intOf]; omega⟩
        first | exact HI5.out | exact HI5a.out
       case false =>
        obtain ⟨hh,hhs⟩ : ∃ y,x.has = y:=⟨_,rfl⟩
        rw [hhs] at z1 HI4 HSTEP KX hcell4 hfree4
        cases hh
        case false =>
         have HSX:=Lib.hid (show InR l bs0 (bs.set i true) i (j + 1) by simpa using HSTEP.out)
         have HI5:=Lib.hid (HI4.out.set i true)
         have HI5a:=Lib.hid ((HI3.out.set i true).next ((Below.refl _ _).alloc (Nat.le_refl _) (.cells #[.string x.name,.bool false,.string x.ty.dof,.string x.ty.name,.slice x.ty.at_ x.ty.args.length x.ty.cap] 117)))
         go_wp2_with fail
         refine ⟨⟨j + 1,bs.set i true,by go_num,by omega, ?_,HSX.out⟩,by simp [intOf]; omega⟩
         first | exact HI5.out | exact HI5a.out
        case true =>
         have HC2:=Lib.hid (HCALL.out hhs)
         generalize hasV (someB l bs) x.ty = rv at HC2 HSTEP
         have HSX:=Lib.hid (show InR l bs0 (bs.set i rv) i (j + 1) by simpa using HSTEP.out)
         go_wp2_with fail
         refine Calls.mono (HC2.out _ HI4.out) ?_
         rintro e w6 ⟨rfl,hb6⟩
         have HI6:=Lib.hid (HI4.out.next hb6)
         have HI7:=Lib.hid (HI6.out.set i rv)
         have hcell6 : w6.cell? ⟨g,i,none⟩ = some (.bool false):=(HI6.out.blk.cell i).trans (bArr_get HBV.out)
         have hfree6:=HI6.out.blk.free i
         have hglt6:=HI6.out.blk.lt
         clear hb6 z0 z1 z2 z3 z4 hcell hfree hglt hcell4 hfree4
         go_wp2_with fail
         exact ⟨⟨j + 1,bs.set i rv,by go_num,by omega,HI7.out,HSX.out⟩,by simp [intOf]; omega⟩
      ·have hj2 : j = q.cons.length:=by omega
       subst hj2
       have HNX:=Lib.hid (inR_next HR3.out HQ1.out)
       go_wp2_with fail
       exact ⟨⟨i + 1,bs,by go_num,by omega,HI3.out,HNX.out⟩,by simp [intOf]; omega⟩
    ·have hi2 : i = l.length:=by omega
     subst hi2
     have HNX:=Lib.hid (round_end HR1.out HS.out)
     have HRE:=Lib.hid HR1.out.real
     go_wp2_with fail
     exact ⟨⟨r + 1,bs1,by go_num,by omega,HI1.out,HRE.out,HNX.out⟩,by simp [intOf]; omega⟩
  ·have hr2 : r = l.length:=by omega
   subst hr2
   have HEND:=Lib.hid (inh_end HR.out HI0.out.len HQ.out HS.out)
   have hlen:=HI0.out.len
   go_wp2_with fail
   exact bodyPost_ret (v:=.slice (some ⟨g,0,none⟩) l.length l.length) (by simp [results,Tryz.results41,go_sem]) rfl ⟨HI0.out.bel,g,bs0,by rw [HI0.out.len],HI0.out.len,bools_blk HI0.out.blk,HEND.out⟩
end Go.Proofs.YtjeggkfgdhepaaaGreatDoor

namespace Go.Proofs.YtjeggkfgdhepaaaGreatDoor
open Go.RowKit
open Go.Proofs
open Go.Maps
set_option maxRecDepth 100000 in
set_option maxHeartbeats 8000000 in
theorem under_any (h : Pt) (f : Form) (hf : Head h f) (hn : h.args.length = f.types.length) (h2 : f.types.length ≤ 2) (b o c : Nat) (p : Pt) (ps : List Pt) (w : World) (hrow : Rw.In w.heap.size w ⟨some ⟨b,o,none⟩,c,p :: ps⟩) (hlen : p.args.length + ps.length ≤ 999990) :
  Calls Tryz.prog 82 #[.slice (some ⟨b,o,none⟩) (ps.length + 1) c,h.val] w (OpenPost w (opened f (p :: ps))):=by
 have HTAIL:=Lib.hid (tail_in hrow)
 have HP:=Lib.hid (hrow.2.1 p (by simp))
 have hcle : ps.length + 1 ≤ c:=by have:=hrow.2.2.1; simpa using this
 have hc : c ≤ 9223372036854775807:=hrow.2.2.2
 obtain ⟨b',o',he,hb,hcell⟩:=hrow.1 (by simp)
 simp only [Option.some.injEq,Addr.mk.injEq,and_true] at he
 obtain ⟨rfl,rfl⟩:=he
 have hc0:=hcell 0 p.cells rfl
 have x0:=hc0 0 _ rfl
 have x1:=hc0 1 _ rfl
 have x2:=hc0 2 _ rfl
 have x3:=hc0 3 _ rfl
 simp only [Nat.zero_mul,Nat.add_zero] at x0 x1 x2 x3
 have HOC:=Lib.hid (opened_cons f p ps)
 obtain ⟨res,hres⟩ : ∃ r,opened f (p :: ps) = r:=⟨_,rfl⟩
 rw [hres] at HOC
 rw [hres]
 obtain ⟨i0,hi,hz0,hz1,hz2⟩:=info_parts infoPat
 have HPP:=Lib.hid (show p.args.length ≤ 1099511627776 ∧ RowAt w.heap.size w 4 p.at_ (p.args.map Pt.cells) ∧ (∀ q ∈ p.args,q.In w.heap.size w) ∧ p.args.length ≤ p.cap ∧ (p.at_ = none → p.cap = 0) by
  have h9:=HP.out
  obtain ⟨d9,s9,n9,a9,c9,l9⟩:=p
  obtain ⟨-,-,-,k1,k2,k3,k4⟩:=Pt.In_mk.1 h9
  exact ⟨k1,k3,k4,k2.1,k2.2⟩)
 have HB0:=Lib.hid (((Below.refl w.heap.size w).alloc (Nat.le_refl _) (.cells #[.string h.dof,.string h.name,.int .i64 h.num,.slice h.at_ h.args.length h.cap] 28)).alloc (by simp) (.cells #[.string p.dof,.string p.name,.int .i64 p.num,.slice p.at_ p.args.length p.cap] 28))
 have K1:=Lib.hid ((Blk.new w #[.string h.dof,.string h.name,.int .i64 h.num,.slice h.at_ h.args.length h.cap] 28).alloc (.cells #[.string p.dof,.string p.name,.int .i64 p.num,.slice p.at_ p.args.length p.cap] 28))
 have K2:=Lib.hid (Blk.new' (w.alloc (.cells #[.string h.dof,.string h.name,.int .i64 h.num,.slice h.at_ h.args.length h.cap] 28)) #[.string p.dof,.string p.name,.int .i64 p.num,.slice p.at_ p.args.length p.cap] 28 (w.heap.size + 1) (by simp))
 have HCW:=Lib.hid (fun W => rwild_any p W)
 have HF:=Lib.hid hf
 obtain ⟨k,hk9⟩ : ∃ k,f.types.length = k:=⟨_,rfl⟩
 rw [hk9] at hn h2 HOC
 clear hrow hcell hc0 hres hf hk9
 unfold Pt.val at *
 rw [hn] at HB0 K1 K2 ⊢
 clear hn
 go_enter Tryz.func82,Tryz.ntmps82
 go_wp2_with fail
 generalize (w.alloc (.cells #[.string h.dof,.string h.name,.int .i64 h.num,.slice h.at_ k h.cap] 28)).alloc (.cells #[.string p.dof,.string p.name,.int .i64 p.num,.slice p.at_ p.args.length p.cap] 28) = w0 at HB0 K1 K2 ⊢
 clear x0 x1 x2 x3
 refine Calls.mono (HCW.out _) ?_
 rintro e w1 ⟨rfl,hb1⟩
 have HB1:=Lib.hid (HB0.out.trans (hb1.mono HB0.out.size))
 have K11:=Lib.hid (K1.out.below hb1 K1.out.lt)
 have K21:=Lib.hid (K2.out.below hb1 K2.out.lt)
 obtain ⟨y0,y1,y2,y3⟩:=K11.out.four
 obtain ⟨z0,z1,z2,z3⟩:=K21.out.four
 have yl:=K11.out.lt
 have zl:=K21.out.lt
 clear hb1
 cases hw : wildD p.dof
 case true =>
  rw [hw] at HOC
  simp only [if_true] at HOC
  go_wp2_with fail
  clear y0 y1 y2 y3 z0 z1 z2 z3
  go_loopw [16,7] (fun iv av wr => ∃ (j : Nat) (Aj : Option Addr) (cj : Nat),iv = .int .i64 j ∧ j ≤ k ∧ av = .slice Aj j cj ∧ Hid (Below w.heap.size w wr) ∧ Hid (wr.ownsRow w.heap.size 28 4 (.slice Aj j cj) j (((List.replicate j anyPt).map Pt.cells).flatten))) (fun iv _ _ => k - (intOf iv).toNat)
  case atStart => exact ⟨0,none,0,rfl,Nat.zero_le _,rfl,HB1.out,World.ownsRow_nil _ _ _ _⟩
  case round =>
   obtain ⟨j,Aj,cj,rfl,hj,rfl,HB,HO⟩:=hrel
   have hs0:=HB.out.size
   by_cases hlt : j < k
   ·go_wp2_with (at_builtin; go_must (refine wpList_append_own_at _ rfl (.tmp 18) (.tmp 20) 26 rfl w.heap.size 28 i0 _ 4 64 Tryz.underlying26 hi hz0 hz1 hz2 rfl (by decide) (.slice Aj j cj) j (((List.replicate j anyPt).map Pt.cells).flatten) rfl ?hown ⟨wr.heap.size,0,none⟩ 1 1 anyPt.cells rfl rfl ?c1 ?c2 ?c3 ?c4 ?c5 ?_))
    case hown => exact World.ownsRow.alloc HO.out _
    case c1 => exact World.news_of_block (heap_alloc_new wr _)
    case c2 => simp [Value.oneCell',Pt.cells]
    case c3 => unfold maxLen; omega
    case c4 => omega
    case c5 => first | omega | (simp; omega)
    intro v' w2 hown hgrow _ _
    obtain ⟨A2,c2,rfl,-⟩:=row_slice hown
    have HB2:=Lib.hid ((HB.out.alloc hs0 (.cells #[.string ⟨#[97,110,121]⟩,.string ⟨#[]⟩,.int .i64 0,.slice none 0 0] 28)).grown hgrow (by simp; omega) (fun i hi => (HO.out.lt i hi).1))
    have HO2:=Lib.hid hown
    clear hown hgrow
    go_wp2_with fail
    refine ⟨⟨j + 1,A2,c2,by go_num,by omega,rfl,HB2.out,Lib.hid ?_⟩,by simp [intOf]; omega⟩
    rw [cells_anys,List.map_append,List.flatten_append]
    simpa using HO2.out
   ·have hj2 : j = k:=by omega
    subst hj2
    by_cases hc1 : c = 1
    ·subst hc1
     have hps : ps = []:=List.eq_nil_of_length_eq_zero (by omega)
     subst hps
     go_wp2_with (at_builtin; go_must (refine append_rowat rfl (.tmp 46) (.tmp 48) 26 rfl w.heap.size 28 i0 _ 4 64 Tryz.underlying26 hi hz0 hz1 hz2 rfl (by decide) (.slice Aj j cj) j (((List.replicate j anyPt).map Pt.cells).flatten) rfl HO.out w.heap.size (some ⟨b,o,none⟩) [] 0 ?hxQQa (fun h => by cases h) ?hrQQa ?hlQQa ?hkQQa ?hoQQa ?h6QQa ?hbQQa HB.out.size ?_))
     try case hxQQa => simp [Act.eval,Act.put]
     try case hrQQa => exact fun h => by simp at h
     try case hlQQa => simp <;> omega
     try case hkQQa => intro y hy; first | (cases hy; done) | (obtain ⟨q,-,rfl⟩:=List.mem_map.1 hy; rfl)
     try case hoQQa => intro y hy u hu; first | (cases hy; done) | (obtain ⟨q,-,rfl⟩:=List.mem_map.1 hy; simp only [Pt.cells,List.mem_cons,List.not_mem_nil,or_false] at hu; rcases hu with rfl | rfl | rfl | rfl <;> rfl)
     case h6QQa => unfold maxLen; first | omega | (simp only [List.length_nil,Nat.add_zero]; omega) | (simp only [List.length_map]; omega) | (have:=hlen; simp at *; omega)
     case hbQQa => first | omega | (simp only [List.length_nil,Nat.add_zero]; omega) | (simp only [List.length_map]; omega) | (have:=hlen; simp at *; omega)
     intro v9 w9 hown hgrow _
     obtain ⟨A9,c9,rfl,-⟩:=row_slice hown
     have HB9:=Lib.hid (HB.out.grown hgrow HB.out.size (fun i hi => (HO.out.lt i hi).1))
     have HV9:=Lib.hid (show PatsO w.heap.size w9 (.slice A9 (j + ([] : List (List Value)).length) c9) (List.replicate j anyPt ++ ([] : List Pt)) from ⟨A9,c9,by simp,by simpa using hown⟩)
     clear hown hgrow
     go_wp2_with fail
     exact bodyPost_ret (v:=.tuple #[.slice A9 (j + ([] : List (List Value)).length) c9,.bool true]) (by simp [results,Tryz.results82,go_sem]) rfl (OpenPost.yes HB9.out HOC.out HV9.out)
    ·go_wp2_with (at_builtin; go_must (refine append_rowat rfl (.tmp 46) (.tmp 48) 26 rfl w.heap.size 28 i0 _ 4 64 Tryz.underlying26 hi hz0 hz1 hz2 rfl (by decide) (.slice Aj j cj) j (((List.replicate j anyPt).map Pt.cells).flatten) rfl HO.out w.heap.size (some ⟨b,o + 4,none⟩) (ps.map Pt.cells) (c - 1) ?hxQQ (fun h => by cases h) ?hrQQ ?hlQQ ?hkQQ ?hoQQ ?h6QQ ?hbQQ HB.out.size ?_))
     try case hxQQ => simp [Act.eval,Act.put]
     try case hrQQ => exact by have h9:=HTAIL.out.1.keep HB.out; rw [if_neg hc1] at h9; exact h9
     try case hlQQ => simp <;> omega
     try case hkQQ => intro y hy; first | (cases hy; done) | (obtain ⟨q,-,rfl⟩:=List.mem_map.1 hy; rfl)
     try case hoQQ => intro y hy u hu; first | (cases hy; done) | (obtain ⟨q,-,rfl⟩:=List.mem_map.1 hy; simp only [Pt.cells,List.mem_cons,List.not_mem_nil,or_false] at hu; rcases hu with rfl | rfl | rfl | rfl <;> rfl)
     case h6QQ => unfold maxLen; first | omega | (simp only [List.length_nil,Nat.add_zero]; omega) | (simp only [List.length_map]; omega) | (have:=hlen; simp at *; omega)
     case hbQQ => first | omega | (simp only [List.length_nil,Nat.add_zero]; omega) | (simp only [List.length_map]; omega) | (have:=hlen; simp at *; omega)
     intro v9 w9 hown hgrow _
     obtain ⟨A9,c9,rfl,-⟩:=row_slice hown
     have HB9:=Lib.hid (HB.out.grown hgrow HB.out.size (fun i hi => (HO.out.lt i hi).1))
     have HV9:=Lib.hid (show PatsO w.heap.size w9 (.slice A9 (j + (ps.map Pt.cells).length) c9) (List.replicate j anyPt ++ ps) from ⟨A9,c9,by simp,by simpa using hown⟩)
     clear hown hgrow
     go_wp2_with fail
     exact bodyPost_ret (v:=.tuple #[.slice A9 (j + (ps.map Pt.cells).length) c9,.bool true]) (by simp [results,Tryz.results82,go_sem]) rfl (OpenPost.yes HB9.out HOC.out HV9.out)
 case false =>
  rw [hw] at HOC
  simp only [Bool.false_eq_true,if_false] at HOC
  obtain ⟨b1,h1⟩ : ∃ x,(p.dof.toList == h.dof.toList) = x:=⟨_,rfl⟩
  obtain ⟨b2,h2'⟩ : ∃ x,(p.name.toList == h.name.toList) = x:=⟨_,rfl⟩
  obtain ⟨b3,h3⟩ : ∃ x,(p.num == h.num) = x:=⟨_,rfl⟩
  have h1':=bne_of h1
  have h2'':=bne_of h2'
  have h3' : (p.num != h.num) = !b3:=by rw [bne,h3]
  have HIS:=Lib.hid (show f.is p = (b1 && (b2 && b3)) by unfold Form.is; rw [← HF.out.1,← HF.out.2.1,← HF.out.2.2,h1,h2',h3])
  cases b1
  case false =>
   have HR:=Lib.hid (show res = none by rw [HOC.out,HIS.out]; rfl)
   go_wp2_with fail
   exact bodyPost_ret (v:=.tuple #[.slice none 0 0,.bool false]) (by simp [results,Tryz.results82,go_sem]) rfl (OpenPost.no HB1.out HR.out)
  cases b2
  case false =>
   have HR:=Lib.hid (show res = none by rw [HOC.out,HIS.out]; rfl)
   go_wp2_with fail
   exact bodyPost_ret (v:=.tuple #[.slice none 0 0,.bool false]) (by simp [results,Tryz.results82,go_sem]) rfl (OpenPost.no HB1.out HR.out)
  cases b3
  case false =>
   have HR:=Lib.hid (show res = none by rw [HOC.out,HIS.out]; rfl)
   go_wp2_with fail
   exact bodyPost_ret (v:=.tuple #[.slice none 0 0,.bool false]) (by simp [results,Tryz.results82,go_sem]) rfl (OpenPost.no HB1.out HR.out)
  case true =>
   have HR:=Lib.hid (show res = some (p.args ++ ps) by rw [HOC.out,HIS.out]; rfl)
   have HON:=Lib.hid (World.ownsRow_nil w1 w.heap.size 28 4)
   go_wp2_with (at_builtin; go_must (refine append_rowat rfl (.tmp 42) (.tmp 44) 26 rfl w.heap.size 28 i0 _ 4 64 Tryz.underlying26 hi hz0 hz1 hz2 rfl (by decide) (.slice none 0 0) 0 [] rfl HON.out w.heap.size p.at_ (p.args.map Pt.cells) p.cap ?gx ?gA ?gr ?gl ?gk ?go ?g6 ?gb HB1.out.size ?_))
   try case gx => simp [Act.eval,Act.put]
   case gA => exact HPP.out.2.2.2.2
   case gr => exact HPP.out.2.1.keep HB1.out
   case gl => have:=HPP.out.2.2.2.1; simp <;> omega
   case gk => intro y hy; obtain ⟨q,-,rfl⟩:=List.mem_map.1 hy; rfl
   case go => intro y hy u hu; obtain ⟨q,-,rfl⟩:=List.mem_map.1 hy; simp only [Pt.cells,List.mem_cons,List.not_mem_nil,or_false] at hu; rcases hu with rfl | rfl | rfl | rfl <;> rfl
   case g6 => unfold maxLen; simp <;> omega
   case gb => simp <;> omega
   intro v8 w8 hown8 hgrow8 _
   obtain ⟨A8,c8,rfl,-⟩:=row_slice hown8
   have HB8:=Lib.hid (HB1.out.grown hgrow8 HB1.out.size (fun i hi => by simp [Value.ownBlock] at hi))
   have HO8:=Lib.hid (show w8.ownsRow w.heap.size 28 4 (.slice A8 (0 + (p.args.map Pt.cells).length) c8) (0 + (p.args.map Pt.cells).length) ((p.args.map Pt.cells).flatten) by simpa using hown8)
   clear hown8 hgrow8 y0 y1 y2 y3 z0 z1 z2 z3 yl zl
   have hpa : (p.args.map Pt.cells).length = p.args.length:=List.length_map _
   rw [hpa,Nat.zero_add] at HO8
   clear hpa
   by_cases hc1 : c = 1
   ·subst hc1
    have hps : ps = []:=List.eq_nil_of_length_eq_zero (by omega)
    subst hps
    go_wp2_with (at_builtin; go_must (refine append_rowat rfl (.tmp 46) (.tmp 48) 26 rfl w.heap.size 28 i0 _ 4 64 Tryz.underlying26 hi hz0 hz1 hz2 rfl (by decide) (.slice A8 p.args.length c8) p.args.length ((p.args.map Pt.cells).flatten) rfl HO8.out w.heap.size (some ⟨b,o,none⟩) [] 0 ?hxRRa (fun h => by cases h) ?hrRRa ?hlRRa ?hkRRa ?hoRRa ?h6RRa ?hbRRa HB8.out.size ?_))
    try case hxRRa => simp [Act.eval,Act.put]
    try case hrRRa => exact fun h => by simp at h
    try case hlRRa => simp <;> omega
    try case hkRRa => intro y hy; first | (cases hy; done) | (obtain ⟨q,-,rfl⟩:=List.mem_map.1 hy; rfl)
    try case hoRRa => intro y hy u hu; first | (cases hy; done) | (obtain ⟨q,-,rfl⟩:=List.mem_map.1 hy; simp only [Pt.cells,List.mem_cons,List.not_mem_nil,or_false] at hu; rcases hu with rfl | rfl | rfl | rfl <;> rfl)
    case h6RRa => unfold maxLen; first | omega | (simp only [List.length_nil,Nat.add_zero]; omega) | (simp only [List.length_map]; omega) | (have:=hlen; simp at *; omega)
    case hbRRa => first | omega | (simp only [List.length_nil,Nat.add_zero]; omega) | (simp only [List.length_map]; omega) | (have:=hlen; simp at *; omega)
    intro v9 w9 hown hgrow _
    obtain ⟨A9,c9,rfl,-⟩:=row_slice hown
    have HB9:=Lib.hid (HB8.out.grown hgrow HB8.out.size (fun i hi => (HO8.out.lt i hi).1))
    have HV9:=Lib.hid (show PatsO w.heap.size w9 (.slice A9 (p.args.length + ([] : List (List Value)).length) c9) (p.args ++ ([] : List Pt)) from ⟨A9,c9,by simp,by simpa using hown⟩)
    clear hown hgrow
    go_wp2_with fail
    exact bodyPost_ret (v:=.tuple #[.slice A9 (p.args.length + ([] : List (List Value)).length) c9,.bool true]) (by simp [results,Tryz.results82,go_sem]) rfl (OpenPost.yes HB9.out HR.out HV9.out)
   ·go_wp2_with (at_builtin; go_must (refine append_rowat rfl (.tmp 46) (.tmp 48) 26 rfl w.heap.size 28 i0 _ 4 64 Tryz.underlying26 hi hz0 hz1 hz2 rfl (by decide) (.slice A8 p.args.length c8) p.args.length ((p.args.map Pt.cells).flatten) rfl HO8.out w.heap.size (some ⟨b,o + 4,none⟩) (ps.map Pt.cells) (c - 1) ?hxRR (fun h => by cases h) ?hrRR ?hlRR ?hkRR ?hoRR ?h6RR ?hbRR HB8.out.size ?_))
    try case hxRR => simp [Act.eval,Act.put]
    try case hrRR => exact by have h9:=HTAIL.out.1.keep HB8.out; rw [if_neg hc1] at h9; exact h9
    try case hlRR => simp <;> omega
    try case hkRR => intro y hy; first | (cases hy; done) | (obtain ⟨q,-,rfl⟩:=List.mem_map.1 hy; rfl)
    try case hoRR => intro y hy u hu; first | (cases hy; done) | (obtain ⟨q,-,rfl⟩:=List.mem_map.1 hy; simp only [Pt.cells,List.mem_cons,List.not_mem_nil,or_false] at hu; rcases hu with rfl | rfl | rfl | rfl <;> rfl)
    case h6RR => unfold maxLen; first | omega | (simp only [List.length_nil,Nat.add_zero]; omega) | (simp only [List.length_map]; omega) | (have:=hlen; simp at *; omega)
    case hbRR => first | omega | (simp only [List.length_nil,Nat.add_zero]; omega) | (simp only [List.length_map]; omega) | (have:=hlen; simp at *; omega)
    intro v9 w9 hown hgrow _
    obtain ⟨A9,c9,rfl,-⟩:=row_slice hown
    have HB9:=Lib.hid (HB8.out.grown hgrow HB8.out.size (fun i hi => (HO8.out.lt i hi).1))
    have HV9:=Lib.hid (show PatsO w.heap.size w9 (.slice A9 (p.args.length + (ps.map Pt.cells).length) c9) (p.args ++ ps) from ⟨A9,c9,by simp,by simpa using hown⟩)
    clear hown hgrow
    go_wp2_with fail
    exact bodyPost_ret (v:=.tuple #[.slice A9 (p.args.length + (ps.map Pt.cells).length) c9,.bool true]) (by simp [results,Tryz.results82,go_sem]) rfl (OpenPost.yes HB9.out HR.out HV9.out)
end Go.Proofs.YtjeggkfgdhepaaaGreatDoor

namespace Go.Proofs.YtjeggkfgdhepaaaGreatDoor
open Go.RowKit
open Go.Proofs
open Go.Maps
structure HeadOk (l : List Dt) (t : Ty) (f : Form) (h : Pt) : Prop where
 head : Head h f
 len : h.args.length = f.types.length
 parts : f.types = partsD l t h.dof h.name
 two : f.types.length ≤ 2
def HeadsPost (l : List Dt) (t : Ty) (col : List Pt) (w : World) (e : Ending) (w' : World) : Prop:=
 Below w.heap.size w w' ∧ ∃ (A : Option Addr) (c : Nat) (hs : List Pt) (fs : List Form),e = .returned (.slice A hs.length c) ∧ RowAt w'.heap.size w' 4 A (hs.map Pt.cells) ∧ (∀ h ∈ hs,h.In w'.heap.size w') ∧ hs.length ≤ 1099511627776 ∧ IsForms l t col fs ∧ F2 (HeadOk l t) fs hs
theorem flat_in3 (B : Nat) (w : World) (d : ByteArray) (n : Int) (hd : d.size ≤ 1099511627776) (hn : -9223372036854775808 ≤ n ∧ n ≤ 9223372036854775807) : (Pt.mk d emptyS n none 0 []).In B w:=flat_in B w d emptyS n hd (by decide) hn
theorem heads_fin {l : List Dt} {t : Ty} {col : List Pt} {w w' : World} {g : Nat} {T : TypeId} {cs : Array Value} (hb : Below w.heap.size w w') (hs : List Pt) (fs : List Form) (hk : Blk w' g cs T) (hc : cs = ((hs.map Pt.cells).flatten).toArray) (hin : ∀ h ∈ hs,h.In w'.heap.size w') (hl : hs.length ≤ 1099511627776) (hf : IsForms l t col fs) (h2 : F2 (HeadOk l t) fs hs) (n c : Nat) (hn : n = hs.length) :
  HeadsPost l t col w (.returned (.slice (some ⟨g,0,none⟩) n c)) w':=⟨hb,some ⟨g,0,none⟩,c,hs,fs,by rw [hn],pats_blk hs hk hc,hin,hl,hf,h2⟩
theorem parts_flat (l : List Dt) (t : Ty) (d : ByteArray) (h : d = dUnit ∨ d = dBool ∨ d = dNil ∨ d = dInt) : partsD l t d emptyS = []:=by
 unfold partsD isDo
 rcases h with rfl | rfl | rfl | rfl
 ·rw [l_unit]; rfl
 ·rw [l_bool]; rfl
 ·rw [l_nil]; rfl
 ·rw [l_int]; rfl
theorem head_flat (l : List Dt) (t : Ty) (d : ByteArray) (n : Int) (h : d = dUnit ∨ d = dBool ∨ d = dNil ∨ d = dInt) : HeadOk l t ⟨d,emptyS,n,[]⟩ (.mk d emptyS n none 0 []):=⟨⟨rfl,rfl,rfl⟩,rfl,(parts_flat l t d h).symm,by simp⟩
def twoC : Array Value:=#[.string ⟨#[97,110,121]⟩,.string ⟨#[]⟩,.int .i64 0,.slice none 0 0,.string ⟨#[97,110,121]⟩,.string ⟨#[]⟩,.int .i64 0,.slice none 0 0]
theorem two_row {w : World} {g : Nat} {T : TypeId} (h : Blk w g twoC T) : RowAt w.heap.size w 4 (some ⟨g,0,none⟩) ([anyPt,anyPt].map Pt.cells):=pats_blk [anyPt,anyPt] h rfl
theorem two_in {w : World} {g : Nat} {T : TypeId} (h : Blk w g twoC T) (d : ByteArray) (hd : d.size ≤ 1099511627776) : (Pt.mk d emptyS 0 (some ⟨g,0,none⟩) 2 [anyPt,anyPt]).In w.heap.size w:=
 Pt.In_mk.2 ⟨hd,(by decide : emptyS.size ≤ 1099511627776),⟨by decide,by decide⟩,by simp,⟨by simp,fun h => (by cases h)⟩,two_row h,fun p hp => by simp only [List.mem_cons,List.not_mem_nil,or_false] at hp; rcases hp with rfl | rfl <;> exact anyPt_in _ _⟩
section
variable (A : Option Addr) (l : List Dt) (c : Nat) (t : Ty) (Ac : Option Addr) (col : List Pt) (cc : Nat) (w : World)
set_option maxRecDepth 100000 in
set_option maxHeartbeats 4000000 in
theorem heads_unit (hd : isDo [117,110,105,116] t.dof = true) : Calls Tryz.prog 81 #[.slice A l.length c,t.val,.slice Ac col.length cc] w (HeadsPost l t col w):=by
 have hp : (t.dof.toList == [117,110,105,116]) = true:=hd
 have HB0:=Lib.hid (((Below.refl w.heap.size w).alloc (Nat.le_refl _) (.cells #[.string t.dof,.string t.name,.slice t.at_ t.args.length t.cap] 25)).alloc (by simp) (.cells twoC 28))
 have HPOST:=Lib.hid (fun (w' : World) (g : Nat) (hb : Below w.heap.size w w') (hk : Blk w' g #[.string ⟨#[117,110,105,116]⟩,.string ⟨#[]⟩,.int .i64 0,.slice none 0 0] 28) =>
  heads_fin (l:=l) (t:=t) (col:=col) hb [.mk dUnit emptyS 0 none 0 []] [⟨dUnit,emptyS,0,[]⟩] hk rfl (fun h hh => by simp only [List.mem_cons,List.not_mem_nil,or_false] at hh; subst hh; exact flat_in3 _ _ _ _ (by decide) (by decide)) (by simp) (.inr (.inr (.inr (.inl ⟨hd,rfl⟩)))) (.cons (head_flat l t _ _ (by simp)) .nil) 1 1 rfl)
 unfold twoC at HB0
 unfold Ty.val
 go_enter Tryz.func81,Tryz.ntmps81
 go_wp2_with fail
 have HB1:=Lib.hid (HB0.out.alloc HB0.out.size (.cells #[.string ⟨#[117,110,105,116]⟩,.string ⟨#[]⟩,.int .i64 0,.slice none 0 0] 28))
 exact bodyPost_ret (v:=.slice (some ⟨w.heap.size + 1 + 1,0,none⟩) 1 1) (by simp [results,Tryz.results81,go_sem]) rfl (HPOST.out _ _ HB1.out (Blk.new' _ _ _ _ (by simp)))
set_option maxRecDepth 100000 in
set_option maxHeartbeats 4000000 in
theorem heads_bool (hd : isDo [98,111,111,108] t.dof = true) : Calls Tryz.prog 81 #[.slice A l.length c,t.val,.slice Ac col.length cc] w (HeadsPost l t col w):=by
 have hp : (t.dof.toList == [98,111,111,108]) = true:=hd
 have g1:=do_other (b:=[117,110,105,116]) hp (by decide)
 have HB0:=Lib.hid (((Below.refl w.heap.size w).alloc (Nat.le_refl _) (.cells #[.string t.dof,.string t.name,.slice t.at_ t.args.length t.cap] 25)).alloc (by simp) (.cells twoC 28))
 have HPOST:=Lib.hid (fun (w' : World) (g : Nat) (hb : Below w.heap.size w w') (hk : Blk w' g #[.string ⟨#[98,111,111,108]⟩,.string ⟨#[]⟩,.int .i64 0,.slice none 0 0,.string ⟨#[98,111,111,108]⟩,.string ⟨#[]⟩,.int .i64 1,.slice none 0 0] 28) =>
  heads_fin (l:=l) (t:=t) (col:=col) hb [.mk dBool emptyS 0 none 0 [],.mk dBool emptyS 1 none 0 []] [⟨dBool,emptyS,0,[]⟩,⟨dBool,emptyS,1,[]⟩] hk rfl (fun h hh => by simp only [List.mem_cons,List.not_mem_nil,or_false] at hh; rcases hh with rfl | rfl <;> exact flat_in3 _ _ _ _ (by decide) (by decide)) (by simp) (.inr (.inr (.inl ⟨hd,rfl⟩))) (.cons (head_flat l t _ _ (by simp)) (.cons (head_flat l t _ _ (by simp)) .nil)) 2 2 rfl)
 unfold twoC at HB0
 unfold Ty.val
 go_enter Tryz.func81,Tryz.ntmps81
 go_wp2_with fail
 have HB1:=Lib.hid (HB0.out.alloc HB0.out.size (.cells #[.string ⟨#[98,111,111,108]⟩,.string ⟨#[]⟩,.int .i64 0,.slice none 0 0,.string ⟨#[98,111,111,108]⟩,.string ⟨#[]⟩,.int .i64 1,.slice none 0 0] 28))
 exact bodyPost_ret (v:=.slice (some ⟨w.heap.size + 1 + 1,0,none⟩) 2 2) (by simp [results,Tryz.results81,go_sem]) rfl (HPOST.out _ _ HB1.out (Blk.new' _ _ _ _ (by simp)))
set_option maxRecDepth 100000 in
set_option maxHeartbeats 4000000 in
theorem heads_pair (ht : okT l t) (hd : isDo [112,97,105,114] t.dof = true) : Calls Tryz.prog 81 #[.slice A l.length c,t.val,.slice Ac col.length cc] w (HeadsPost l t col w):=by
 have hp : (t.dof.toList == [112,97,105,114]) = true:=hd
 have g1:=do_other (b:=[117,110,105,116]) hp (by decide)
 have g2:=do_other (b:=[98,111,111,108]) hp (by decide)
 obtain ⟨t0,t1,hargs⟩:=pair_args ht hd
 have HB0:=Lib.hid (((Below.refl w.heap.size w).alloc (Nat.le_refl _) (.cells #[.string t.dof,.string t.name,.slice t.at_ t.args.length t.cap] 25)).alloc (by simp) (.cells twoC 28))
 have HPOST:=Lib.hid (fun (w' : World) (g g2 : Nat) (hb : Below w.heap.size w w') (h2 : Blk w' g2 twoC 28) (hk : Blk w' g #[.string ⟨#[112,97,105,114]⟩,.string ⟨#[]⟩,.int .i64 0,.slice (some ⟨g2,0,none⟩) 2 2] 28) =>
  heads_fin (l:=l) (t:=t) (col:=col) hb [.mk dPair emptyS 0 (some ⟨g2,0,none⟩) 2 [anyPt,anyPt]] [⟨dPair,emptyS,0,t.args⟩] hk rfl (fun h hh => by simp only [List.mem_cons,List.not_mem_nil,or_false] at hh; subst hh; exact two_in h2 _ (by decide)) (by simp) (.inl ⟨hd,rfl⟩) (.cons ⟨⟨rfl,rfl,rfl⟩,by rw [hargs]; rfl,by unfold partsD isDo; simp [Pt.dof,l_pair],by rw [hargs]; simp⟩ .nil) 1 1 rfl)
 clear hargs ht
 unfold twoC at HB0
 unfold Ty.val
 go_enter Tryz.func81,Tryz.ntmps81
 go_wp2_with fail
 have HB1:=Lib.hid (HB0.out.alloc HB0.out.size (.cells #[.string ⟨#[112,97,105,114]⟩,.string ⟨#[]⟩,.int .i64 0,.slice (some ⟨w.heap.size + 1,0,none⟩) 2 2] 28))
 exact bodyPost_ret (v:=.slice (some ⟨w.heap.size + 1 + 1,0,none⟩) 1 1) (by simp [results,Tryz.results81,go_sem]) rfl (HPOST.out _ _ (w.heap.size + 1) HB1.out ((Blk.new' _ _ _ (w.heap.size + 1) (by simp)).alloc _) (Blk.new' _ _ _ _ (by simp)))
set_option maxRecDepth 100000 in
set_option maxHeartbeats 4000000 in
theorem heads_list (ht : okT l t) (hd : isDo [108,105,115,116] t.dof = true) : Calls Tryz.prog 81 #[.slice A l.length c,t.val,.slice Ac col.length cc] w (HeadsPost l t col w):=by
 have hp : (t.dof.toList == [108,105,115,116]) = true:=hd
 have g1:=do_other (b:=[117,110,105,116]) hp (by decide)
 have g2:=do_other (b:=[98,111,111,108]) hp (by decide)
 have g3:=do_other (b:=[112,97,105,114]) hp (by decide)
 obtain ⟨t0,hargs⟩:=list_args ht hd
 have HB0:=Lib.hid (((Below.refl w.heap.size w).alloc (Nat.le_refl _) (.cells #[.string t.dof,.string t.name,.slice t.at_ t.args.length t.cap] 25)).alloc (by simp) (.cells twoC 28))
 have HPOST:=Lib.hid (fun (w' : World) (g g2 : Nat) (hb : Below w.heap.size w w') (h2 : Blk w' g2 twoC 28) (hk : Blk w' g #[.string ⟨#[110,105,108]⟩,.string ⟨#[]⟩,.int .i64 0,.slice none 0 0,.string ⟨#[99,111,110,115]⟩,.string ⟨#[]⟩,.int .i64 0,.slice (some ⟨g2,0,none⟩) 2 2] 28) =>
  heads_fin (l:=l) (t:=t) (col:=col) hb [.mk dNil emptyS 0 none 0 [],.mk dCons emptyS 0 (some ⟨g2,0,none⟩) 2 [anyPt,anyPt]] [⟨dNil,emptyS,0,[]⟩,⟨dCons,emptyS,0,t.args.take 1 ++ [t]⟩] hk rfl (fun h hh => by simp only [List.mem_cons,List.not_mem_nil,or_false] at hh; rcases hh with rfl | rfl; exact flat_in3 _ _ _ _ (by decide) (by decide); exact two_in h2 _ (by decide)) (by simp) (.inr (.inl ⟨hd,rfl⟩)) (.cons (head_flat l t _ _ (by simp)) (.cons ⟨⟨rfl,rfl,rfl⟩,by rw [hargs]; rfl,by unfold partsD isDo; simp [Pt.dof,l_cons],by rw [hargs]; simp⟩ .nil)) 2 2 rfl)
 clear hargs ht
 unfold twoC at HB0
 unfold Ty.val
 go_enter Tryz.func81,Tryz.ntmps81
 go_wp2_with fail
 have HB1:=Lib.hid (HB0.out.alloc HB0.out.size (.cells #[.string ⟨#[110,105,108]⟩,.string ⟨#[]⟩,.int .i64 0,.slice none 0 0,.string ⟨#[99,111,110,115]⟩,.string ⟨#[]⟩,.int .i64 0,.slice (some ⟨w.heap.size + 1,0,none⟩) 2 2] 28))
 exact bodyPost_ret (v:=.slice (some ⟨w.heap.size + 1 + 1,0,none⟩) 2 2) (by simp [results,Tryz.results81,go_sem]) rfl (HPOST.out _ _ (w.heap.size + 1) HB1.out ((Blk.new' _ _ _ (w.heap.size + 1) (by simp)).alloc _) (Blk.new' _ _ _ _ (by simp)))
end
end Go.Proofs.YtjeggkfgdhepaaaGreatDoor

namespace Go.Proofs.YtjeggkfgdhepaaaGreatDoor
open Go.RowKit
open Go.Proofs
open Go.Maps
def colI (col : List Pt) (k : Nat) : List Pt:=(col.take k).filter fun p => isDo [105,110,116] p.dof
theorem colI_succ {col : List Pt} {k : Nat} {q : Pt} (h : col[k]? = some q) : colI col (k + 1) = colI col k ++ (if isDo [105,110,116] q.dof then [q] else []):=by
 unfold colI
 rw [List.take_add_one,h,List.filter_append]
 cases hq : isDo [105,110,116] q.dof <;> simp [hq]
theorem colI_len (col : List Pt) (k : Nat) : (colI col k).length ≤ col.length:=by
 unfold colI
 have h1:=List.length_filter_le (fun p : Pt => isDo [105,110,116] p.dof) (col.take k)
 have h2:=List.length_take_le k col
 have h3:=List.length_take_le' k col
 omega
theorem colI_mem {col : List Pt} {k : Nat} {q : Pt} (h : q ∈ colI col k) : q ∈ col ∧ isDo [105,110,116] q.dof = true:=by
 unfold colI at h
 rw [List.mem_filter] at h
 exact ⟨List.mem_of_mem_take h.1,h.2⟩
theorem intsOf_mem {col : List Pt} {p : Pt} (hp : p ∈ col) (hi : isDo [105,110,116] p.dof = true) : p.num ∈ intsOf col:=by
 unfold intsOf
 exact List.mem_map.2 ⟨p,List.mem_filter.2 ⟨hp,hi⟩,rfl⟩
theorem int_well {p : Pt} (hw : p.wellB = true) (hi : isDo [105,110,116] p.dof = true) : p.dof = dInt ∧ p.name = emptyS ∧ p.args = []:=by
 obtain ⟨d,s,n,a,c,ps⟩:=p
 simp only [Pt.dof,Pt.name,Pt.args] at *
 rw [Pt.wellB_mk,Bool.and_eq_true] at hw
 have h1:=hw.1
 unfold nodeOk at h1
 have hd:=do_is hi
 rw [hd] at h1
 have h2 : s.toList = [] ∧ ps.length = 0:=by simpa using h1
 exact ⟨bytes_is hi l_int,bytes_of (h2.1.trans l_empty.symm),List.eq_nil_of_length_eq_zero h2.2⟩
theorem ints_heads (l : List Dt) (t : Ty) : ∀ ps : List Pt,(∀ p ∈ ps,p.wellB = true ∧ isDo [105,110,116] p.dof = true) → F2 (HeadOk l t) ((ps.map Pt.num).map fun n => (⟨dInt,emptyS,n,[]⟩ : Form)) ps
 | [],_ => .nil
 | p :: ps,h => by
  obtain ⟨h1,h2,h3⟩:=int_well (h p (by simp)).1 (h p (by simp)).2
  refine .cons ⟨⟨h1,h2,rfl⟩,by rw [h3]; rfl,by rw [h1,h2]; exact (parts_flat l t dInt (by simp)).symm,by simp⟩ (ints_heads l t ps fun q hq => h q (by simp [hq]))
section
variable (A : Option Addr) (l : List Dt) (c : Nat) (t : Ty) (Ac : Option Addr) (col : List Pt) (cc : Nat) (w : World)
set_option maxRecDepth 100000 in
set_option maxHeartbeats 8000000 in
theorem heads_int (hd : isDo [105,110,116] t.dof = true) (hrow : RowAt w.heap.size w 4 Ac (col.map Pt.cells)) (hall : ∀ p ∈ col,p.In w.heap.size w ∧ p.wellB = true) (hl : col.length ≤ 1048576) :
  Calls Tryz.prog 81 #[.slice A l.length c,t.val,.slice Ac col.length cc] w (HeadsPost l t col w):=by
 have hp : (t.dof.toList == [105,110,116]) = true:=hd
 have g1:=do_other (b:=[117,110,105,116]) hp (by decide)
 have g2:=do_other (b:=[98,111,111,108]) hp (by decide)
 have g3:=do_other (b:=[112,97,105,114]) hp (by decide)
 have g4:=do_other (b:=[108,105,115,116]) hp (by decide)
 have HROW:=Lib.hid hrow
 have HALL:=Lib.hid hall
 have HD:=Lib.hid hd
 obtain ⟨i0,hi,hz0,hz1,hz2⟩:=info_parts infoPat
 have HB0:=Lib.hid (((Below.refl w.heap.size w).alloc (Nat.le_refl _) (.cells #[.string t.dof,.string t.name,.slice t.at_ t.args.length t.cap] 25)).alloc (by simp) (.cells twoC 28))
 clear hrow hall hd
 unfold twoC at HB0
 unfold Ty.val
 go_enter Tryz.func81,Tryz.ntmps81
 go_wp2_with fail
 generalize (w.alloc (.cells #[.string t.dof,.string t.name,.slice t.at_ t.args.length t.cap] 25)).alloc (.cells #[.string ⟨#[97,110,121]⟩,.string ⟨#[]⟩,.int .i64 0,.slice none 0 0,.string ⟨#[97,110,121]⟩,.string ⟨#[]⟩,.int .i64 0,.slice none 0 0] 28) = w0 at HB0 ⊢
 go_loopw [8,10] (fun ov av wr => ∃ (o : Nat) (ag : Bool),ov = .int .i64 o ∧ av = .bool ag ∧ o ≤ col.length ∧ Hid (Below w.heap.size w wr) ∧ Hid (∀ i : Nat,i < o → (i : Int) ∈ intsOf col) ∧ Hid (ag = false → ∀ p ∈ col,isDo [105,110,116] p.dof = true → p.num ≠ (o : Int))) (fun ov av _ => isT av + 2 * (col.length + 1 - (intOf ov).toNat))
 case atStart => exact ⟨0,true,rfl,rfl,Nat.zero_le _,HB0.out,Lib.hid (fun i hi => absurd hi (Nat.not_lt_zero _)),Lib.hid (fun h => by cases h)⟩
 case round =>
  obtain ⟨o,ag,rfl,rfl,ho,HB1,HI1,HE1⟩:=hrel
  cases ag
  case true =>
   obtain ⟨wo,rfl⟩ : ∃ wo : World,wo = wr:=⟨_,rfl⟩
   go_wp2_with fail
   go_loopw [51,8,10] (fun iv ov av wr => ∃ (k o2 : Nat) (ag : Bool),iv = .int .i64 k ∧ ov = .int .i64 o2 ∧ av = .bool ag ∧ k ≤ col.length ∧ o2 ≤ col.length ∧ Hid (Below w.heap.size w wr) ∧ Hid (o ≤ o2) ∧ Hid (∀ i : Nat,i < o2 → (i : Int) ∈ intsOf col) ∧ Hid (ag = true → o + 1 ≤ o2) ∧ Hid (ag = false → o2 = o ∧ ∀ p ∈ col.take k,isDo [105,110,116] p.dof = true → p.num ≠ (o : Int))) (fun iv _ _ _ => col.length - (intOf iv).toNat)
   case atStart => exact ⟨0,o,false,rfl,rfl,rfl,Nat.zero_le _,ho,HB1.out,Lib.hid (Nat.le_refl _),HI1.out,Lib.hid (fun h => by cases h),Lib.hid (fun _ => ⟨rfl,fun p hp => by simp at hp⟩)⟩
   case round =>
    obtain ⟨k,o2,ag,rfl,rfl,rfl,hk,ho2,HB2,HO2,HI2,HT2,HF2⟩:=hrel
    by_cases hlt : k < col.length
    ·obtain ⟨q,b0,off,hq,hmem,rfl,hb,x0,x1,x2,x3⟩:=Pt.arg_at HROW.out HB2.out hlt
     have HQ:=Lib.hid hq
     have HMEM:=Lib.hid hmem
     have HBA:=Lib.hid (HB2.out.alloc HB2.out.size (.cells #[.string q.dof,.string q.name,.int .i64 q.num,.slice q.at_ q.args.length q.cap] 28))
     have hs2:=HB2.out.size
     obtain ⟨bd,hbd⟩ : ∃ x,(q.dof.toList == [105,110,116]) = x:=⟨_,rfl⟩
     obtain ⟨bn,hbn⟩ : ∃ x,(q.num == (o2 : Int)) = x:=⟨_,rfl⟩
     have HBD:=Lib.hid hbd
     have HBN:=Lib.hid hbn
     have HNO:=Lib.hid (show (bd && bn) = false → ag = false → o2 = o ∧ ∀ p ∈ col.take (k + 1),isDo [105,110,116] p.dof = true → p.num ≠ (o : Int) from fun hno hf => by
      obtain ⟨e,h⟩:=HF2.out hf
      refine ⟨e,fun p hp hi hn => ?_⟩
      rw [take_snoc HQ.out,List.mem_append,List.mem_singleton] at hp
      rcases hp with hp | rfl
      ·exact h p hp hi hn
      ·have hi2 : (p.dof.toList == [105,110,116]) = true:=hi
       rw [HBD.out] at hi2
       rw [hi2] at hno
       have : (p.num == (o2 : Int)) = true:=by rw [e,hn]; simp
       rw [HBN.out] at this
       rw [this] at hno
       cases hno)
     clear hq hmem
     cases bd
     case false =>
      go_wp2_with fail
      exact ⟨⟨k + 1,o2,ag,by go_num,rfl,rfl,by omega,ho2,HBA.out,HO2.out,HI2.out,HT2.out,Lib.hid (HNO.out rfl)⟩,by simp [intOf]; omega⟩
     cases bn
     case false =>
      go_wp2_with fail
      exact ⟨⟨k + 1,o2,ag,by go_num,rfl,rfl,by omega,ho2,HBA.out,HO2.out,HI2.out,HT2.out,Lib.hid (HNO.out rfl)⟩,by simp [intOf]; omega⟩
     case true =>
      have HI3:=Lib.hid (show ∀ i : Nat,i < o2 + 1 → (i : Int) ∈ intsOf col from fun i hi => by
       by_cases h : i < o2
       ·exact HI2.out i h
       ·have : i = o2:=by omega
        subst this
        have hn : q.num = (i : Int):=by simpa using HBN.out
        rw [← hn]
        exact intsOf_mem HMEM.out HBD.out)
      have ho3 : o2 + 1 ≤ col.length:=Nat.le_trans (pigeon (o2 + 1) (intsOf col) HI3.out) (intsOf_len col)
      have ho4:=HO2.out
      go_wp2_with fail
      exact ⟨⟨k + 1,o2 + 1,true,by go_num,by go_num,rfl,by omega,ho3,HBA.out,Lib.hid (by omega),HI3.out,Lib.hid (fun _ => by omega),Lib.hid (fun h => by cases h)⟩,by simp [intOf]; omega⟩
    ·have hk2 : k = col.length:=by omega
     have HE2:=Lib.hid (show ag = false → ∀ p ∈ col,isDo [105,110,116] p.dof = true → p.num ≠ (o2 : Int) from fun hf => by
      obtain ⟨e,h⟩:=HF2.out hf
      rw [hk2,List.take_length] at h
      rw [e]
      exact h)
     have ho4:=HO2.out
     have ht4:=HT2.out
     clear hk2
     go_wp2_with fail
     refine ⟨⟨o2,ag,rfl,rfl,ho2,HB2.out,HI2.out,HE2.out⟩, ?_⟩
     cases ag
     ·simp [isT,intOf]; omega
     ·have:=ht4 rfl
      simp [isT,intOf]; omega
  case false =>
   have HNO:=Lib.hid (HE1.out rfl)
   obtain ⟨wo,rfl⟩ : ∃ wo : World,wo = wr:=⟨_,rfl⟩
   go_wp2_with fail
   go_loopw [69,9] (fun iv hv wr => ∃ (k : Nat) (A1 : Option Addr) (c1 : Nat),iv = .int .i64 k ∧ hv = .slice A1 (colI col k).length c1 ∧ k ≤ col.length ∧ Hid (Below w.heap.size w wr) ∧ Hid (wr.ownsRow w.heap.size 28 4 (.slice A1 (colI col k).length c1) (colI col k).length (((colI col k).map Pt.cells).flatten))) (fun iv _ _ => col.length - (intOf iv).toNat)
   case atStart => exact ⟨0,none,0,rfl,rfl,Nat.zero_le _,HB1.out,World.ownsRow_nil _ _ _ _⟩
   case round =>
    obtain ⟨k,A1,c1,rfl,rfl,hk,HB2,HO⟩:=hrel
    have hs2:=HB2.out.size
    have hcl:=colI_len col k
    by_cases hlt : k < col.length
    ·obtain ⟨q,b0,off,hq,hmem,rfl,hb,x0,x1,x2,x3⟩:=Pt.arg_at HROW.out HB2.out hlt
     have HSU:=Lib.hid (colI_succ hq)
     have HBA:=Lib.hid (HB2.out.alloc hs2 (.cells #[.string q.dof,.string q.name,.int .i64 q.num,.slice q.at_ q.args.length q.cap] 28))
     obtain ⟨bd,hbd⟩ : ∃ x,(q.dof.toList == [105,110,116]) = x:=⟨_,rfl⟩
     have hbd2 : isDo [105,110,116] q.dof = bd:=hbd
     rw [hbd2] at HSU
     have HOA:=Lib.hid (World.ownsRow.alloc HO.out (.cells #[.string q.dof,.string q.name,.int .i64 q.num,.slice q.at_ q.args.length q.cap] 28))
     generalize hlp : colI col k = lp at HSU HOA HO hcl ⊢
     clear hq hmem hbd2 hlp
     cases bd
     case false =>
      have HS2:=Lib.hid (show colI col (k + 1) = lp by rw [HSU.out]; simp)
      go_wp2_with fail
      exact ⟨⟨k + 1,A1,c1,by go_num,by rw [HS2.out],by omega,HBA.out,by rw [HS2.out]; exact HOA.out⟩,by simp [intOf]; omega⟩
     case true =>
      have HS2:=Lib.hid (show colI col (k + 1) = lp ++ [q] by rw [HSU.out]; simp)
      go_wp2_with (at_builtin; go_must (refine wpList_append_own_at _ rfl (.tmp 76) (.tmp 78) 26 rfl w.heap.size 28 i0 _ 4 64 Tryz.underlying26 hi hz0 hz1 hz2 rfl (by decide) (.slice A1 lp.length c1) lp.length ((lp.map Pt.cells).flatten) rfl ?hown ⟨wr.heap.size + 1,0,none⟩ 1 1 q.cells rfl rfl ?c1 ?c2 ?c3 ?c4 ?c5 ?_))
      case hown => exact World.ownsRow.alloc HOA.out _
      case c1 => exact fun j u hu => hu
      case c2 => simp [Value.oneCell',Pt.cells]
      case c3 => unfold maxLen; omega
      case c4 => omega
      case c5 => first | omega | (simp; omega)
      intro v' w5 hown hgrow _ _
      obtain ⟨A5,c5,rfl,-⟩:=row_slice hown
      have HB5:=Lib.hid ((HBA.out.alloc HBA.out.size (.cells #[.string q.dof,.string q.name,.int .i64 q.num,.slice q.at_ q.args.length q.cap] 28)).grown hgrow (by simp; omega) (fun i hi => (HO.out.lt i hi).1))
      have HO5:=Lib.hid hown
      clear hown hgrow x0 x1 x2 x3
      go_wp2_with fail
      exact ⟨⟨k + 1,A5,c5,by go_num,by rw [HS2.out]; simp,by omega,HB5.out,Lib.hid (by rw [HS2.out]; have:=HO5.out; simpa using this)⟩,by simp [intOf]; omega⟩
    ·have hk2 : k = col.length:=by omega
     subst hk2
     have HMEM:=Lib.hid (fun q (hq : q ∈ colI col col.length) => colI_mem hq)
     have HINTS:=Lib.hid (show intsOf col = (colI col col.length).map Pt.num by unfold intsOf colI; rw [List.take_length])
     generalize colI col col.length = lp at *
     have hob : (o : Int) ≤ 9223372036854775807:=by omega
     go_wp2_with (at_builtin; go_must (refine wpList_append_own_at _ rfl (.tmp 81) (.tmp 84) 26 rfl w.heap.size 28 i0 _ 4 64 Tryz.underlying26 hi hz0 hz1 hz2 rfl (by decide) (.slice A1 lp.length c1) lp.length ((lp.map Pt.cells).flatten) rfl ?hown2 ⟨wr.heap.size,0,none⟩ 1 1 (Pt.mk dInt emptyS (o : Int) none 0 []).cells rfl rfl ?d1 ?d2 ?d3 ?d4 ?d5 ?_))
     case hown2 => exact World.ownsRow.alloc HO.out _
     case d1 => exact World.news_of_block (Blk.new' _ _ _ _ (by simp))
     case d2 => simp [Value.oneCell',Pt.cells]
     case d3 => unfold maxLen; omega
     case d4 => omega
     case d5 => first | omega | (simp; omega)
     intro v' w5 hown hgrow _ _
     obtain ⟨A5,c5,rfl,-⟩:=row_slice hown
     have HB5:=Lib.hid ((HB2.out.alloc hs2 (.cells (Pt.mk dInt emptyS (o : Int) none 0 []).cells.toArray 28)).grown hgrow (by simp; omega) (fun i hi => (HO.out.lt i hi).1))
     have HO5:=Lib.hid (show w5.ownsRow w.heap.size 28 4 (.slice A5 (lp ++ [Pt.mk dInt emptyS (o : Int) none 0 []]).length c5) (lp ++ [Pt.mk dInt emptyS (o : Int) none 0 []]).length (((lp ++ [Pt.mk dInt emptyS (o : Int) none 0 []]).map Pt.cells).flatten) by simpa using hown)
     clear hown hgrow
     go_wp2_with fail
     refine bodyPost_ret (v:=.slice A5 (lp.length + 1) c5) (by simp [results,Tryz.results81,go_sem]) rfl ⟨HB5.out,A5,c5,lp ++ [Pt.mk dInt emptyS (o : Int) none 0 []],(intsOf col).map (fun n => (⟨dInt,emptyS,n,[]⟩ : Form)) ++ [⟨dInt,emptyS,(o : Int),[]⟩],by simp,PatsO.row HO5.out,fun h hh => ?_,by simp; omega,.inr (.inr (.inr (.inr (.inl ⟨HD.out,intsOf col,(o : Int),rfl,fun p hp hi => ⟨intsOf_mem hp hi,HNO.out p hp hi⟩⟩)))), ?_⟩
     ·rcases List.mem_append.1 hh with hh | hh
      ·exact (HALL.out h (HMEM.out h hh).1).1.next HB5.out
      ·simp only [List.mem_singleton] at hh
       subst hh
       exact flat_in3 _ _ _ _ (by decide) ⟨by omega,hob⟩
     ·refine f2_append ?_ (.cons (head_flat l t _ _ (by simp)) .nil)
      rw [HINTS.out]
      exact ints_heads l t lp fun p hp => ⟨(HALL.out p (HMEM.out p hp).1).2,(HMEM.out p hp).2⟩
def conHead (g : Nat) (c : Cn) : Pt:=if c.has then .mk dCon c.name 0 (some ⟨g,0,none⟩) 2 [anyPt] else .mk dCon c.name 0 none 0 []
def conCells (g : Nat) (c : Cn) : List Value:=[.string dCon,.string c.name,.int .i64 0,if c.has then .slice (some ⟨g,0,none⟩) 1 2 else .slice none 0 0]
theorem conHead_cells (g : Nat) (c : Cn) : (conHead g c).cells = conCells g c:=by
 unfold conHead conCells
 cases c.has <;> rfl
theorem conHead_ok {l : List Dt} (hr : Right l) {t : Ty} {c : Cn} (hc : c ∈ consOf l t.name) (g : Nat) : HeadOk l t (conForm c) (conHead g c):=by
 have hp:=parts_con hr hc
 unfold conForm conHead
 cases hh : c.has with
 | false =>
  rw [hh] at hp
  exact ⟨⟨rfl,rfl,rfl⟩,rfl,hp.symm,by simp⟩
 | true =>
  rw [hh] at hp
  exact ⟨⟨rfl,rfl,rfl⟩,rfl,hp.symm,by simp⟩
theorem conHead_in {W : World} {g B : Nat} (h : Blk W g twoC 28) (hB : g < B) {c : Cn} (hc : c.name.size ≤ 1099511627776) : (conHead g c).In B W:=by
 unfold conHead
 cases c.has with
 | false => exact flat_in B W dCon c.name 0 (by decide) hc (by decide)
 | true =>
  refine Pt.In_mk.2 ⟨by decide,hc,⟨by decide,by decide⟩,by simp,⟨by simp,fun h => (by cases h)⟩, ?_,fun p hp => by simp only [List.mem_cons,List.not_mem_nil,or_false] at hp; subst hp; exact anyPt_in _ _⟩
  intro _
  refine ⟨g,0,rfl,hB,fun i x hi j v hj => ?_⟩
  rcases i with _ | i
  ·simp only [List.map_cons,List.getElem?_cons_zero,Option.some.injEq] at hi
   subst hi
   rw [h.cell]
   rcases j with _ | _ | _ | _ | j
   ·exact hj
   ·exact hj
   ·exact hj
   ·exact hj
   ·simp [Pt.cells] at hj
  ·simp at hi
theorem f2_map {α β γ : Type} {R : β → γ → Prop} {f : α → β} {g : α → γ} : ∀ (l : List α),(∀ a ∈ l,R (f a) (g a)) → F2 R (l.map f) (l.map g)
 | [],_ => .nil
 | a :: l,h => .cons (h a (by simp)) (f2_map l fun x hx => h x (by simp [hx]))
set_option maxRecDepth 100000 in
set_option maxHeartbeats 8000000 in
theorem heads_data (hr : Right l) (hd : isDo [100,97,116,97] t.dof = true) (hdt : DtsIn w.heap.size w A l) (hdl : ∀ d ∈ l,d.cons.length ≤ 1048576) :
  Calls Tryz.prog 81 #[.slice A l.length c,t.val,.slice Ac col.length cc] w (HeadsPost l t col w):=by
 have hp : (t.dof.toList == [100,97,116,97]) = true:=hd
 have g1:=do_other (b:=[117,110,105,116]) hp (by decide)
 have g2:=do_other (b:=[98,111,111,108]) hp (by decide)
 have g3:=do_other (b:=[112,97,105,114]) hp (by decide)
 have g4:=do_other (b:=[108,105,115,116]) hp (by decide)
 have g5:=do_other (b:=[105,110,116]) hp (by decide)
 obtain ⟨nm,A9,c9,hform,hrow9,hx9,hl9⟩:=dtFound_cons hdt t.name
 have HR9:=Lib.hid hrow9
 have HX9:=Lib.hid hx9
 have HFORM:=Lib.hid hform
 have HCD:=Lib.hid (fun (W : World) (hW : Below w.heap.size w W) => datatype_any A l c t.name W (hdt.next hW))
 have HOKC:=Lib.hid (fun (g : Nat) (x : Cn) (hx : x ∈ consOf l t.name) => conHead_ok hr hx g)
 have HISF:=Lib.hid (show IsForms l t col ((consOf l t.name).map conForm) from .inr (.inr (.inr (.inr (.inr ⟨hd,rfl⟩)))))
 have hcl : (consOf l t.name).length ≤ 1048576:=by
  by_cases hne : consOf l t.name = []
  ·rw [hne]; simp
  ·obtain ⟨x,hx⟩:=List.exists_mem_of_ne_nil _ hne
   obtain ⟨d0,hd0,-,-,he⟩:=consOf_mem hx
   rw [he]
   exact hdl d0 hd0
 obtain ⟨i0,hi,hz0,hz1,hz2⟩:=info_parts infoPat
 have HB0:=Lib.hid (((Below.refl w.heap.size w).alloc (Nat.le_refl _) (.cells #[.string t.dof,.string t.name,.slice t.at_ t.args.length t.cap] 25)).alloc (by simp) (.cells twoC 28))
 have K1:=Lib.hid ((Blk.new w #[.string t.dof,.string t.name,.slice t.at_ t.args.length t.cap] 25).alloc (.cells twoC 28))
 have K2:=Lib.hid (Blk.new' (w.alloc (.cells #[.string t.dof,.string t.name,.slice t.at_ t.args.length t.cap] 25)) twoC 28 (w.heap.size + 1) (by simp))
 generalize hcs : consOf l t.name = cs at hform hrow9 hx9 hl9 HR9 HX9 HFORM HOKC HISF hcl
 clear hform hrow9 hx9 hdt hd hcs
 unfold Ty.val
 have htw : twoC = #[.string ⟨#[97,110,121]⟩,.string ⟨#[]⟩,.int .i64 0,.slice none 0 0,.string ⟨#[97,110,121]⟩,.string ⟨#[]⟩,.int .i64 0,.slice none 0 0]:=rfl
 rw [htw] at HB0 K1 K2
 go_enter Tryz.func81,Tryz.ntmps81
 go_wp2_with fail
 generalize (w.alloc (.cells #[.string t.dof,.string t.name,.slice t.at_ t.args.length t.cap] 25)).alloc (.cells #[.string ⟨#[97,110,121]⟩,.string ⟨#[]⟩,.int .i64 0,.slice none 0 0,.string ⟨#[97,110,121]⟩,.string ⟨#[]⟩,.int .i64 0,.slice none 0 0] 28) = w0 at HB0 K1 K2 ⊢
 rw [← htw] at K2
 refine Calls.mono (HCD.out _ HB0.out) ?_
 rintro e w1 ⟨rfl,hb1⟩
 rw [HFORM.out]
 have HB1:=Lib.hid (HB0.out.trans (hb1.mono HB0.out.size))
 have K21:=Lib.hid (K2.out.below hb1 K2.out.lt)
 generalize (dtFound l t.name).2 = fnd at *
 clear hb1
 go_wp2_with fail
 have HB2:=Lib.hid (HB1.out.alloc HB1.out.size (.cells #[.string nm,.slice A9 cs.length c9] 111))
 have K22:=Lib.hid (K21.out.alloc (.cells #[.string nm,.slice A9 cs.length c9] 111))
 generalize w1.alloc (.cells #[.string nm,.slice A9 cs.length c9] 111) = w2 at HB2 K22 ⊢
 have hk2:=K22.out.lt
 go_loopw [96,15] (fun iv hv wr => ∃ (k : Nat) (A1 : Option Addr) (c1 : Nat),iv = .int .i64 k ∧ hv = .slice A1 k c1 ∧ k ≤ cs.length ∧ Hid (Below w2.heap.size w2 wr) ∧ Hid (wr.ownsRow w2.heap.size 28 4 (.slice A1 k c1) k (((cs.take k).map (conCells (w.heap.size + 1))).flatten))) (fun iv _ _ => cs.length - (intOf iv).toNat)
 case atStart => exact ⟨0,none,0,rfl,rfl,Nat.zero_le _,Below.refl _ _,World.ownsRow_nil _ _ _ _⟩
 case round =>
  obtain ⟨k,A1,c1,rfl,rfl,hk,HC,HO⟩:=hrel
  have HBW:=Lib.hid (HB2.out.trans (HC.out.mono HB2.out.size))
  have hs2:=HC.out.size
  by_cases hlt : k < cs.length
  ·obtain ⟨x,b5,off5,hq5,hm5,hat5,hb5,z0,z1,z2,z3,z4⟩:=Cn.arg_at HR9.out HBW.out hlt
   have HTS:=Lib.hid (show (cs.take (k + 1)).map (conCells (w.heap.size + 1)) = (cs.take k).map (conCells (w.heap.size + 1)) ++ [conCells (w.heap.size + 1) x] by rw [take_snoc hq5,List.map_append]; rfl)
   rw [hat5]
   have hbs:=HBW.out.size
   clear hq5 hm5
   have hcc : conCells (w.heap.size + 1) x = [.string dCon,.string x.name,.int .i64 0,if x.has then .slice (some ⟨w.heap.size + 1,0,none⟩) 1 2 else .slice none 0 0]:=rfl
   obtain ⟨hh,hhs⟩ : ∃ y,x.has = y:=⟨_,rfl⟩
   rw [hhs] at z1 hcc
   have HCX:=Lib.hid hcc
   clear hcc hhs
   cases hh
   case false =>
    have HC5:=Lib.hid (show conCells (w.heap.size + 1) x = [.string ⟨#[99,111,110]⟩,.string x.name,.int .i64 0,.slice none 0 0] from HCX.out)
    have hfree:=K22.out.lt
    go_wp2_with (at_builtin; go_must (refine wpList_append_own_at _ rfl (.tmp 108) (.tmp 110) 26 rfl w2.heap.size 28 i0 _ 4 64 Tryz.underlying26 hi hz0 hz1 hz2 rfl (by decide) (.slice A1 k c1) k (((cs.take k).map (conCells (w.heap.size + 1))).flatten) rfl ?ha0 ⟨wr.heap.size + 1 + 1,0,none⟩ 1 1 [.string ⟨#[99,111,110]⟩,.string x.name,.int .i64 0,.slice none 0 0] rfl rfl ?ha1 ?ha2 ?ha3 ?ha4 ?ha5 ?_))
    try case ha0 => first | exact ((HO.out.alloc _).alloc _).alloc _ | (rw [← List.map_take]; exact ((HO.out.alloc _).alloc _).alloc _)
    try case ha1 => exact World.news_of_block (Blk.new' _ _ _ _ (by simp))
    case ha2 => simp [Value.oneCell']
    case ha3 => unfold maxLen; omega
    case ha4 => omega
    case ha5 => first | omega | (simp; omega)
    intro v' w5 hown hgrow _ _
    obtain ⟨A5,c5,rfl,-⟩:=row_slice hown
    have HB5:=Lib.hid ((((HC.out.alloc hs2 (.cells #[.string x.name,.bool false,.string x.ty.dof,.string x.ty.name,.slice x.ty.at_ x.ty.args.length x.ty.cap] 117)).alloc (by simp; omega) (.cells #[.string ⟨#[99,111,110]⟩,.string x.name,.int .i64 0,.slice none 0 0] 28)).alloc (by simp; omega) (.cells #[.string ⟨#[99,111,110]⟩,.string x.name,.int .i64 0,.slice none 0 0] 28)).grown hgrow (by simp; omega) (fun i hi => (HO.out.lt i hi).1))
    have HO5:=Lib.hid hown
    clear hown hgrow z0 z1 z2 z3 z4
    go_wp2_with fail
    refine ⟨⟨k + 1,A5,c5,by go_num,rfl,by omega,HB5.out,Lib.hid ?_⟩,by simp [intOf]; omega⟩
    rw [HTS.out,List.flatten_append,HC5.out]
    simpa using HO5.out
   case true =>
    have HC5:=Lib.hid (show conCells (w.heap.size + 1) x = [.string ⟨#[99,111,110]⟩,.string x.name,.int .i64 0,.slice (some ⟨w.heap.size + 1,0,none⟩) 1 2] from HCX.out)
    have hfree:=K22.out.lt
    go_wp2_with (at_builtin; go_must (refine wpList_append_own_at _ rfl (.tmp 108) (.tmp 110) 26 rfl w2.heap.size 28 i0 _ 4 64 Tryz.underlying26 hi hz0 hz1 hz2 rfl (by decide) (.slice A1 k c1) k (((cs.take k).map (conCells (w.heap.size + 1))).flatten) rfl ?hb0 ⟨wr.heap.size + 1 + 1,0,none⟩ 1 1 [.string ⟨#[99,111,110]⟩,.string x.name,.int .i64 0,.slice (some ⟨w.heap.size + 1,0,none⟩) 1 2] rfl rfl ?hb1 ?hb2 ?hb3 ?hb4 ?hb5 ?_))
    try case hb0 => first | exact ((HO.out.alloc _).alloc _).alloc _ | (rw [← List.map_take]; exact ((HO.out.alloc _).alloc _).alloc _)
    try case hb1 => exact World.news_of_block (Blk.new' _ _ _ _ (by simp))
    case hb2 => simp [Value.oneCell']
    case hb3 => unfold maxLen; omega
    case hb4 => omega
    case hb5 => first | omega | (simp; omega)
    intro v' w5 hown hgrow _ _
    obtain ⟨A5,c5,rfl,-⟩:=row_slice hown
    have HB5:=Lib.hid ((((HC.out.alloc hs2 (.cells #[.string x.name,.bool true,.string x.ty.dof,.string x.ty.name,.slice x.ty.at_ x.ty.args.length x.ty.cap] 117)).alloc (by simp; omega) (.cells #[.string ⟨#[99,111,110]⟩,.string x.name,.int .i64 0,.slice (some ⟨w.heap.size + 1,0,none⟩) 1 2] 28)).alloc (by simp; omega) (.cells #[.string ⟨#[99,111,110]⟩,.string x.name,.int .i64 0,.slice (some ⟨w.heap.size + 1,0,none⟩) 1 2] 28)).grown hgrow (by simp; omega) (fun i hi => (HO.out.lt i hi).1))
    have HO5:=Lib.hid hown
    clear hown hgrow z0 z1 z2 z3 z4
    go_wp2_with fail
    refine ⟨⟨k + 1,A5,c5,by go_num,rfl,by omega,HB5.out,Lib.hid ?_⟩,by simp [intOf]; omega⟩
    rw [HTS.out,List.flatten_append,HC5.out]
    simpa using HO5.out
  ·have hk3 : k = cs.length:=by omega
   have ho:=HO.out
   rw [hk3,List.take_length] at ho
   have hcells : cs.map (conCells (w.heap.size + 1)) = (cs.map (conHead (w.heap.size + 1))).map Pt.cells:=by
    rw [List.map_map]
    exact List.map_congr_left fun x _ => (conHead_cells _ x).symm
   rw [hcells] at ho
   have HO2:=Lib.hid (show wr.ownsRow w2.heap.size 28 4 (.slice A1 (cs.map (conHead (w.heap.size + 1))).length c1) (cs.map (conHead (w.heap.size + 1))).length (((cs.map (conHead (w.heap.size + 1))).map Pt.cells).flatten) by rw [List.length_map]; exact ho)
   have HK:=Lib.hid (K22.out.below HC.out K22.out.lt)
   have hkeq : k = (cs.map (conHead (w.heap.size + 1))).length:=by rw [List.length_map]; exact hk3
   have HKE:=Lib.hid hkeq
   clear hk3 ho hcells hkeq
   go_wp2_with fail
   exact bodyPost_ret (v:=.slice A1 k c1) (by simp [results,Tryz.results81,go_sem]) rfl ⟨HBW.out,A1,c1,cs.map (conHead (w.heap.size + 1)),cs.map conForm,by rw [HKE.out],PatsO.row HO2.out,fun h hh => by
    obtain ⟨x,hx,rfl⟩:=List.mem_map.1 hh
    exact conHead_in HK.out HK.out.lt (HX9.out x hx).1.1,by simp; omega,HISF.out,f2_map cs fun x hx => HOKC.out _ x hx⟩
theorem heads_any (hr : Right l) (ht : okT l t) (hop : opaqueT t = false) (hdt : DtsIn w.heap.size w A l) (hdl : ∀ d ∈ l,d.cons.length ≤ 1048576) (hrow : RowAt w.heap.size w 4 Ac (col.map Pt.cells)) (hall : ∀ p ∈ col,p.In w.heap.size w ∧ p.wellB = true) (hl : col.length ≤ 1048576) :
  Calls Tryz.prog 81 #[.slice A l.length c,t.val,.slice Ac col.length cc] w (HeadsPost l t col w):=by
 rcases ty_kinds ht with h | h | h | h | h | h | h
 ·rw [hop] at h; cases h
 ·exact heads_pair A l c t Ac col cc w ht h
 ·exact heads_list A l c t Ac col cc w ht h
 ·exact heads_bool A l c t Ac col cc w h
 ·exact heads_unit A l c t Ac col cc w h
 ·exact heads_int A l c t Ac col cc w h hrow hall hl
 ·exact heads_data A l c t Ac col cc w hr h hdt hdl
end
end Go.Proofs.YtjeggkfgdhepaaaGreatDoor
