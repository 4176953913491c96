/- Checker.Pat: every pattern. -/
import Derived.Test.YtjeggkfgdhepaaaGreatDoorG04
set_option linter.unusedVariables false
set_option linter.unusedSimpArgs false
namespace Go.Proofs.YtjeggkfgdhepaaaGreatDoor
open Go.RowKit
open Go.Proofs
open Go.Maps
def zMade : Value:=.agg #[.string emptyS,.int .i64 0,.string emptyS,.bool false,.string emptyS,.string emptyS,.slice none 0 0]
theorem zeroMade (w : World) : (zeroValue 119).run Tryz.prog w = .ok zMade w:=by kernel_rfl
theorem map_look_run {w : World} {b n : Nat} {L : List (ByteArray × Value)} (h : MapAt ofV w b n L) (s : ByteArray) (hs : s.size ≤ 1099511627776) :
  (Instr.lookup 60 (.map (some b)) (.string s) true).run Tryz.prog w = .ok (.tuple #[(lookL L s).getD zMade,.bool (lookL L s).isSome]) w:=by
 obtain ⟨D,hown,hnm⟩:=h
 obtain ⟨v,ps,hrun,hR⟩:=hown.look_ok lawStr Tryz.underlying60 (zeroMade w) (rdE_mk ofV zMade) (Go.WideMaps.keyOf_string_mk Tryz.underlying9 (maxLen_ge hs))
 obtain ⟨-,he⟩:=rdE_inv hR
 simp only [Prod.mk.injEq] at he
 have h1:=he.1
 rw [hrun,show Maps.has D (.string s.data.toList) = (lookL L s).isSome from hnm.has s]
 cases hl : lookL L s with
 | none =>
  have hno : Maps.has D (keyL s) = false:=by rw [hnm.has,hl]; rfl
  rw [show D.atKey (.string s.data.toList) (.held (ofV zMade)) = .held (ofV zMade) from Maps.atKey_of_not_has hno _] at h1
  simp only [DataW.held.injEq] at h1
  rw [← h1]
  rfl
 | some y =>
  rw [show D.atKey (.string s.data.toList) (.held (ofV zMade)) = .held (ofV y) from hnm.at_ s y hl _] at h1
  simp only [DataW.held.injEq] at h1
  rw [← h1]
  rfl
def B2 (bp bt : Nat) (d s : ByteArray) (n : Int) (A : Option Addr) (len c : Nat) (t : Ty) (W : World) : Prop:=
 W.cell? ⟨bp,0,none⟩ = some (.string d) ∧ W.cell? ⟨bp,1,none⟩ = some (.string s) ∧ W.cell? ⟨bp,2,none⟩ = some (.int .i64 n) ∧ W.cell? ⟨bp,3,none⟩ = some (.slice A len c) ∧
 W.cell? ⟨bt,0,none⟩ = some (.string t.dof) ∧ W.cell? ⟨bt,1,none⟩ = some (.string t.name) ∧ W.cell? ⟨bt,2,none⟩ = some (.slice t.at_ t.args.length t.cap)
theorem node_two_len {d n : ByteArray} {m : Int} {len : Nat} (hn : nodeOk d n m len = true) (hany : (d.toList == [97,110,121]) = false) (hvar : (d.toList == [118,97,114]) = false) (hint : (d.toList == [105,110,116]) = false) (hbool : (d.toList == [98,111,111,108]) = false) (hunit : (d.toList == [117,110,105,116]) = false) (hnil : (d.toList == [110,105,108]) = false)
  (h : (d.toList == [112,97,105,114]) = true ∨ (d.toList == [99,111,110,115]) = true) : len = 2:=by
 unfold nodeOk at hn
 rw [hany,hunit,hnil,hvar,hint,hbool] at hn
 rcases h with h | h
 ·rw [h] at hn
  simp at hn
  exact hn.2
 ·rw [h] at hn
  simp at hn
  exact hn.2
theorem node_con_len {d n : ByteArray} {m : Int} {len : Nat} (hn : nodeOk d n m len = true) (hany : (d.toList == [97,110,121]) = false) (hvar : (d.toList == [118,97,114]) = false) (hint : (d.toList == [105,110,116]) = false) (hbool : (d.toList == [98,111,111,108]) = false) (hunit : (d.toList == [117,110,105,116]) = false) (hnil : (d.toList == [110,105,108]) = false)
  (hpair : (d.toList == [112,97,105,114]) = false) (hcons : (d.toList == [99,111,110,115]) = false) : len ≤ 1:=by
 unfold nodeOk at hn
 rw [hany,hunit,hnil,hvar,hint,hbool,hpair,hcons] at hn
 simp at hn
 exact hn.2.2
theorem Ty.In.parts {B : Nat} {w : World} {t : Ty} (h : t.In B w) : t.args.length ≤ 1099511627776 ∧ RowAt B w 3 t.at_ (t.args.map Ty.cells) ∧ ∀ u ∈ t.args,u.In B w:=by
 cases t
 obtain ⟨-,-,h1,-,h2,h3⟩:=Ty.In_mk.1 h
 exact ⟨h1,h2,h3⟩
theorem Ty.well_parts {t : Ty} (h : t.well (kindB .con) = true) : Ty.arity t.dof = some t.args.length ∧ ∀ u ∈ t.args,u.well (kindB .con) = true:=by
 cases t
 rw [Ty.well_mk] at h
 simp only [Bool.and_eq_true,beq_iff_eq,List.all_eq_true] at h
 exact ⟨h.1.2,h.2⟩
theorem arity_pair {d : ByteArray} (h : (d.toList == [112,97,105,114]) = true) : Ty.arity d = some 2:=by
 unfold Ty.arity isDo
 rw [beq_iff_eq] at h
 rw [h]
 rfl
theorem arity_list {d : ByteArray} (h : (d.toList == [108,105,115,116]) = true) : Ty.arity d = some 1:=by
 unfold Ty.arity isDo
 rw [beq_iff_eq] at h
 rw [h]
 rfl
theorem row_tys {B k : Nat} {W : World} {t0 t1 : Ty} {T : TypeId} (hb : Blk W k #[.string t0.dof,.string t0.name,.slice t0.at_ t0.args.length t0.cap,.string t1.dof,.string t1.name,.slice t1.at_ t1.args.length t1.cap] T) (hk : k < B) : RowAt B W 3 (some ⟨k,0,none⟩) ([t0,t1].map Ty.cells):=by
 refine fun _ => ⟨k,0,rfl,hk,fun i x hi j v hj => ?_⟩
 rw [hb.cell]
 rcases i with _ | _ | i
 ·simp only [List.map_cons,List.getElem?_cons_zero,Option.some.injEq] at hi
  subst hi
  unfold Ty.cells at hj
  rcases j with _ | _ | _ | j
  ·exact hj
  ·exact hj
  ·exact hj
  ·simp at hj
 ·simp only [List.map_cons,List.getElem?_cons_zero,List.getElem?_cons_succ,Option.some.injEq] at hi
  subst hi
  unfold Ty.cells at hj
  rcases j with _ | _ | _ | j
  ·exact hj
  ·exact hj
  ·exact hj
  ·simp at hj
 ·simp at hi
def B20 (bp b bC : Nat) (s : ByteArray) (mv : Value) (is : Bool) (W : World) : Prop:=
 W.cell? ⟨bp,1,none⟩ = some (.string s) ∧ W.cell? ⟨b,1,none⟩ = some (.map (some bC)) ∧ (Instr.lookup 60 (.map (some bC)) (.string s) true).run Tryz.prog W = .ok (.tuple #[mv,.bool is]) W
theorem row_ty1 {B k : Nat} {W : World} {t0 : Ty} {T : TypeId} (hb : Blk W k #[.string t0.dof,.string t0.name,.slice t0.at_ t0.args.length t0.cap] T) (hk : k < B) : RowAt B W 3 (some ⟨k,0,none⟩) ([t0].map Ty.cells):=by
 refine fun _ => ⟨k,0,rfl,hk,fun i x hi j v hj => ?_⟩
 rw [hb.cell]
 rcases i with _ | i
 ·simp only [List.map_cons,List.getElem?_cons_zero,Option.some.injEq] at hi
  subst hi
  unfold Ty.cells at hj
  rcases j with _ | _ | _ | j
  ·exact hj
  ·exact hj
  ·exact hj
  ·simp at hj
 ·simp at hi
def B23 (bp bm : Nat) (A : Option Addr) (len c : Nat) (u : Ty) (W : World) : Prop:=
 W.cell? ⟨bp,3,none⟩ = some (.slice A len c) ∧ W.cell? ⟨bm,4,none⟩ = some (.string u.dof) ∧ W.cell? ⟨bm,5,none⟩ = some (.string u.name) ∧ W.cell? ⟨bm,6,none⟩ = some (.slice u.at_ u.args.length u.cap)
def B3 (bp bt : Nat) (d s : ByteArray) (n : Int) (A : Option Addr) (len c : Nat) (td tn : ByteArray) (b1 off1 tc : Nat) (t0 : Ty) (W : World) : Prop:=
 W.cell? ⟨bp,3,none⟩ = some (.slice A len c) ∧ W.cell? ⟨bt,0,none⟩ = some (.string td) ∧ W.cell? ⟨bt,1,none⟩ = some (.string tn) ∧ W.cell? ⟨bt,2,none⟩ = some (.slice (some ⟨b1,off1,none⟩) 1 tc) ∧
 W.cell? ⟨b1,off1,none⟩ = some (.string t0.dof) ∧ W.cell? ⟨b1,off1 + 1,none⟩ = some (.string t0.name) ∧ W.cell? ⟨b1,off1 + 2,none⟩ = some (.slice t0.at_ t0.args.length t0.cap)
set_option maxRecDepth 100000 in
set_option maxHeartbeats 8000000 in
theorem cpat_any (look : Look) (b bC nC : Nat) (LC : List (ByteArray × Value)) : ∀ q : Pt,PatC look b bC nC LC q:=by
 refine Pt.induct fun d s n A c l ih t w v hin hwell htin htw hck hsc hlo => ?_
 obtain ⟨hd,hs,hm,hl,-,hrow,hall⟩:=Pt.In_mk.1 hin
 rw [Pt.wellB_mk,Bool.and_eq_true] at hwell
 rw [Pt.fit_mk]
 have HR:=Lib.hid hrow
 have HA:=Lib.hid hall
 have HT:=Lib.hid htin
 have HTW:=Lib.hid htw
 have HNODE:=Lib.hid hwell.1
 have HP:=Lib.hid (fun q (hq : q ∈ l) => (⟨ih q hq,List.all_eq_true.1 hwell.2 q hq⟩ : PatC look b bC nC LC q ∧ q.wellB = true))
 have HCK:=Lib.hid hck
 have HSC:=Lib.hid hsc
 have HLO:=Lib.hid hlo
 clear hin hrow hall htin htw hwell ih hck hsc hlo
 have HB1:=Lib.hid ((Below.refl w.heap.size w).alloc (Nat.le_refl _) (.cells #[.string d,.string s,.int .i64 n,.slice A l.length c] 28))
 have HB2:=Lib.hid (HB1.out.alloc (by simp) (.cells #[.string t.dof,.string t.name,.slice t.at_ t.args.length t.cap] 25))
 have HK1:=Lib.hid ((Blk.new w #[.string d,.string s,.int .i64 n,.slice A l.length c] 28).alloc (.cells #[.string t.dof,.string t.name,.slice t.at_ t.args.length t.cap] 25))
 have HK2:=Lib.hid (Blk.new' (w.alloc (.cells #[.string d,.string s,.int .i64 n,.slice A l.length c] 28)) #[.string t.dof,.string t.name,.slice t.at_ t.args.length t.cap] 25 (w.heap.size + 1) (by simp))
 unfold Pt.val Ty.val isDo
 simp only [Pt.dof,Pt.name,Pt.num,Pt.at_,Pt.cap,Pt.args]
 obtain ⟨tany,hany⟩ : ∃ x,(d.toList == [97,110,121]) = x:=⟨_,rfl⟩
 rw [hany]
 cases tany
 case true =>
  go_enter Tryz.func37,Tryz.ntmps37
  go_wp2_with fail
  exact bodyPost_ret (by simp [results,Tryz.results37,go_sem]) rfl (CPost.mk HB2.out (HSC.out.next HB2.out))
 obtain ⟨tvar,hvar⟩ : ∃ x,(d.toList == [118,97,114]) = x:=⟨_,rfl⟩
 rw [hvar]
 cases tvar
 case true =>
  have HC:=Lib.hid (fun W (h : ScAt W v) => with_any v s t W h)
  unfold Ty.val at HC
  go_enter Tryz.func37,Tryz.ntmps37
  go_wp2_with fail
  refine Calls.mono (HC.out _ (HSC.out.next HB2.out)) ?_
  rintro e w1 ⟨hb1,v1,rfl,hs1⟩
  have HB3:=Lib.hid (HB2.out.trans (hb1.mono HB2.out.size))
  have HS1:=Lib.hid hs1
  clear hb1 hs1
  go_wp2_with fail
  exact bodyPost_ret (by simp [results,Tryz.results37,go_sem]) rfl (CPost.mk HB3.out HS1.out)
 have hbox : ∀ W,Below ((w.alloc (.cells #[.string d,.string s,.int .i64 n,.slice A l.length c] 28)).alloc (.cells #[.string t.dof,.string t.name,.slice t.at_ t.args.length t.cap] 25)).heap.size ((w.alloc (.cells #[.string d,.string s,.int .i64 n,.slice A l.length c] 28)).alloc (.cells #[.string t.dof,.string t.name,.slice t.at_ t.args.length t.cap] 25)) W → B2 w.heap.size (w.heap.size + 1) d s n A l.length c t W:=fun W hW => by
  have k1:=HK1.out.below hW HK1.out.lt
  have k2:=HK2.out.below hW HK2.out.lt
  exact ⟨k1.cell 0,k1.cell 1,k1.cell 2,k1.cell 3,k2.cell 0,k2.cell 1,k2.cell 2⟩
 have HBOX:=Lib.hid hbox
 clear hbox
 obtain ⟨tint,hint⟩ : ∃ x,(d.toList == [105,110,116]) = x:=⟨_,rfl⟩
 obtain ⟨tbool,hbool⟩ : ∃ x,(d.toList == [98,111,111,108]) = x:=⟨_,rfl⟩
 obtain ⟨tunit,hunit⟩ : ∃ x,(d.toList == [117,110,105,116]) = x:=⟨_,rfl⟩
 obtain ⟨teq,hteq⟩ : ∃ x,(t.dof.toList == d.toList) = x:=⟨_,rfl⟩
 rw [hint,hbool,hunit,hteq]
 have hbase : ∀ (hh : (tint || tbool || tunit) = true),Calls Tryz.prog 37 #[.pointer (some ⟨b,0,none⟩),v,.agg #[.string d,.string s,.int .i64 n,.slice A l.length c],.agg #[.string t.dof,.string t.name,.slice t.at_ t.args.length t.cap]] w (CPost w teq):=by
  intro hh
  have HSC2:=Lib.hid ((HSC.out.next HB2.out).next (Below.refl _ _).drew)
  cases tint
  case true =>
   clear hh hbool hunit
   go_enter Tryz.func37,Tryz.ntmps37
   go_wp2_with fail
   refine region_mix (B2 w.heap.size (w.heap.size + 1) d s n A l.length c t) [(0,true),(1,true),(2,true),(3,true),(4,true),(5,true),(6,false),(7,false)] 7 (by kernel_rfl) (by kernel_rfl) (HBOX.out _ (Below.refl _ _).drew) ?_
   simp only [pickM,List.filterMap_cons,List.getElem?_cons_zero,List.getElem?_cons_succ,List.filterMap_nil,Option.map_some]
   repeat
    refine wpMix_read ?_ (by rfl) (fun W hW => ?_) ?_
    rotate_left
    ·unfold B2 at hW
     go_simp
     try with_reducible rfl
    simp only [Act.put,List.setIfInBounds_toArray,List.set_cons_zero,List.set_cons_succ]
   iterate 2
    refine wpMix_step rfl (fun K hK => ?_)
    go_simp
    refine hK _ _ (fun _ => HBOX.out _ (Below.refl _ _).drew) ?_
    clear hK K
   refine wpMix_nil ?_
   refine NoPanic.normal ?_
   go_wp2_with fail
   exact bodyPost_ret (by simp [results,Tryz.results37,go_sem]) rfl (CPost.mk HB2.out.drew HSC2.out)
  cases tbool
  case true =>
   clear hh hunit
   go_enter Tryz.func37,Tryz.ntmps37
   go_wp2_with fail
   refine region_mix (B2 w.heap.size (w.heap.size + 1) d s n A l.length c t) [(0,true),(1,true),(2,true),(3,true),(4,true),(5,true),(6,false),(7,false)] 7 (by kernel_rfl) (by kernel_rfl) (HBOX.out _ (Below.refl _ _).drew) ?_
   simp only [pickM,List.filterMap_cons,List.getElem?_cons_zero,List.getElem?_cons_succ,List.filterMap_nil,Option.map_some]
   repeat
    refine wpMix_read ?_ (by rfl) (fun W hW => ?_) ?_
    rotate_left
    ·unfold B2 at hW
     go_simp
     try with_reducible rfl
    simp only [Act.put,List.setIfInBounds_toArray,List.set_cons_zero,List.set_cons_succ]
   iterate 2
    refine wpMix_step rfl (fun K hK => ?_)
    go_simp
    refine hK _ _ (fun _ => HBOX.out _ (Below.refl _ _).drew) ?_
    clear hK K
   refine wpMix_nil ?_
   refine NoPanic.normal ?_
   go_wp2_with fail
   exact bodyPost_ret (by simp [results,Tryz.results37,go_sem]) rfl (CPost.mk HB2.out.drew HSC2.out)
  cases tunit
  case true =>
   clear hh
   go_enter Tryz.func37,Tryz.ntmps37
   go_wp2_with fail
   refine region_mix (B2 w.heap.size (w.heap.size + 1) d s n A l.length c t) [(0,true),(1,true),(2,true),(3,true),(4,true),(5,true),(6,false),(7,false)] 7 (by kernel_rfl) (by kernel_rfl) (HBOX.out _ (Below.refl _ _).drew) ?_
   simp only [pickM,List.filterMap_cons,List.getElem?_cons_zero,List.getElem?_cons_succ,List.filterMap_nil,Option.map_some]
   repeat
    refine wpMix_read ?_ (by rfl) (fun W hW => ?_) ?_
    rotate_left
    ·unfold B2 at hW
     go_simp
     try with_reducible rfl
    simp only [Act.put,List.setIfInBounds_toArray,List.set_cons_zero,List.set_cons_succ]
   iterate 2
    refine wpMix_step rfl (fun K hK => ?_)
    go_simp
    refine hK _ _ (fun _ => HBOX.out _ (Below.refl _ _).drew) ?_
    clear hK K
   refine wpMix_nil ?_
   refine NoPanic.normal ?_
   go_wp2_with fail
   exact bodyPost_ret (by simp [results,Tryz.results37,go_sem]) rfl (CPost.mk HB2.out.drew HSC2.out)
  exact absurd hh (by simp)
 by_cases hh : (tint || tbool || tunit) = true
 ·rw [hh]
  exact hbase hh
 have hh2 : (tint || tbool || tunit) = false:=by simpa using hh
 rw [hh2]
 simp only [Bool.or_eq_false_iff] at hh2
 obtain ⟨⟨rfl,rfl⟩,rfl⟩:=hh2
 clear hbase hh hteq
 obtain ⟨tpair,hpair⟩ : ∃ x,(d.toList == [112,97,105,114]) = x:=⟨_,rfl⟩
 obtain ⟨tnil,hnil⟩ : ∃ x,(d.toList == [110,105,108]) = x:=⟨_,rfl⟩
 obtain ⟨tcons,hcons⟩ : ∃ x,(d.toList == [99,111,110,115]) = x:=⟨_,rfl⟩
 obtain ⟨upair,hupair⟩ : ∃ x,(t.dof.toList == [112,97,105,114]) = x:=⟨_,rfl⟩
 obtain ⟨ulist,hulist⟩ : ∃ x,(t.dof.toList == [108,105,115,116]) = x:=⟨_,rfl⟩
 obtain ⟨udata,hudata⟩ : ∃ x,(t.dof.toList == [100,97,116,97]) = x:=⟨_,rfl⟩
 have hupair2:=bne_of hupair
 have hulist2:=bne_of hulist
 have hudata2:=bne_of hudata
 rw [hpair,hnil,hcons,hupair,hulist,hudata]
 cases tpair
 case true =>
  have H2:=Lib.hid (node_two_len HNODE.out hany hvar hint hbool hunit (do_other hpair (by decide)) (.inl hpair))
  cases upair
  case false =>
   go_enter Tryz.func37,Tryz.ntmps37
   go_wp2_with fail
   exact bodyPost_ret (by simp [results,Tryz.results37,go_sem]) rfl (CPost.mk HB2.out (HSC.out.next HB2.out))
  case true =>
   have htp:=HT.out.parts
   have hwp:=Ty.well_parts HTW.out
   have har : t.args.length = 2:=by
    have:=hwp.1
    rw [arity_pair hupair] at this
    simpa using this.symm
   have HC:=Lib.hid (fun (W : World) (hW : Below w.heap.size w W) => pats_any look b bC nC LC l A c t.args t.at_ t.cap HP.out W v hl htp.1 (by rw [H2.out,har]; exact Nat.le_refl _) ((HR.out.keep hW).wider hW.size) (fun q hq => (HA.out q hq).at_ hW hW.size) ((htp.2.1.keep hW).wider hW.size) (fun u hu => ⟨(htp.2.2 u hu).at_ hW hW.size,hwp.2 u hu⟩) (HCK.out.next hW) (HSC.out.next hW) (HLO.out.next hW))
   clear htp hwp har
   go_enter Tryz.func37,Tryz.ntmps37
   go_wp2_with fail
   refine Calls.mono (HC.out _ HB2.out) ?_
   rintro e w3 ⟨hb3,v3,rfl,hs3⟩
   have HB3:=Lib.hid (HB2.out.trans (hb3.mono HB2.out.size))
   have HS3:=Lib.hid hs3
   clear hb3 hs3
   go_wp2_with fail
   exact bodyPost_ret (by simp [results,Tryz.results37,go_sem]) rfl (CPost.mk HB3.out HS3.out)
 cases tnil
 case true =>
  have HSC2:=Lib.hid ((HSC.out.next HB2.out).next (Below.refl _ _).drew)
  go_enter Tryz.func37,Tryz.ntmps37
  go_wp2_with fail
  refine region_mix (B2 w.heap.size (w.heap.size + 1) d s n A l.length c t) [(0,true),(1,true),(2,true),(3,true),(4,false),(5,false)] 5 (by kernel_rfl) (by kernel_rfl) (HBOX.out _ (Below.refl _ _).drew) ?_
  simp only [pickM,List.filterMap_cons,List.getElem?_cons_zero,List.getElem?_cons_succ,List.filterMap_nil,Option.map_some]
  repeat
   refine wpMix_read ?_ (by rfl) (fun W hW => ?_) ?_
   rotate_left
   ·unfold B2 at hW
    go_simp
    try with_reducible rfl
   simp only [Act.put,List.setIfInBounds_toArray,List.set_cons_zero,List.set_cons_succ]
  iterate 2
   refine wpMix_step rfl (fun K hK => ?_)
   go_simp
   refine hK _ _ (fun _ => HBOX.out _ (Below.refl _ _).drew) ?_
   clear hK K
  refine wpMix_nil ?_
  refine NoPanic.normal ?_
  go_wp2_with fail
  exact bodyPost_ret (by simp [results,Tryz.results37,go_sem]) rfl (CPost.mk HB2.out.drew HSC2.out)
 cases tcons
 case true =>
  have H2:=Lib.hid (node_two_len HNODE.out hany hvar hint hbool hunit hnil (.inr hcons))
  cases ulist
  case false =>
   go_enter Tryz.func37,Tryz.ntmps37
   go_wp2_with fail
   exact bodyPost_ret (by simp [results,Tryz.results37,go_sem]) rfl (CPost.mk HB2.out (HSC.out.next HB2.out))
  case true =>
   have htp:=HT.out.parts
   have hwp:=Ty.well_parts HTW.out
   have har : t.args.length = 1:=by
    have:=hwp.1
    rw [arity_list hulist] at this
    simpa using this.symm
   obtain ⟨t0,b1,off1,ht0,ht0m,hAt,hb1,z0,z1,z2⟩:=Ty.arg_at (k:=0) htp.2.1 (Below.refl _ _) (by omega)
   have hargs : t.args = [t0]:=by
    obtain ⟨x,hx⟩:=List.length_eq_one_iff.1 har
    rw [hx] at ht0 ⊢
    simpa using ht0
   have hb3f : ∀ W,Below ((w.alloc (.cells #[.string d,.string s,.int .i64 n,.slice A l.length c] 28)).alloc (.cells #[.string t.dof,.string t.name,.slice t.at_ t.args.length t.cap] 25)).heap.size ((w.alloc (.cells #[.string d,.string s,.int .i64 n,.slice A l.length c] 28)).alloc (.cells #[.string t.dof,.string t.name,.slice t.at_ t.args.length t.cap] 25)) W → B3 w.heap.size (w.heap.size + 1) d s n A l.length c t.dof t.name b1 off1 t.cap t0 W:=fun W hW => by
    have hx:=HBOX.out W hW
    have hwW : Below w.heap.size w W:=HB2.out.trans (hW.mono HB2.out.size)
    unfold B2 at hx
    rw [hAt,har] at hx
    exact ⟨hx.2.2.2.1,hx.2.2.2.2.1,hx.2.2.2.2.2.1,hx.2.2.2.2.2.2,(hwW.cell (p:=⟨b1,off1,none⟩) hb1).trans (by simpa using z0),(hwW.cell (p:=⟨b1,off1 + 1,none⟩) hb1).trans (by simpa using z1),(hwW.cell (p:=⟨b1,off1 + 2,none⟩) hb1).trans (by simpa using z2)⟩
   have HB3F:=Lib.hid hb3f
   have HAR:=Lib.hid har
   have HAT:=Lib.hid hAt
   have HARGS:=Lib.hid hargs
   have HC:=Lib.hid (fun (W : World) (k : Nat) (hW : Below w.heap.size w W) (hk : Blk W k #[.string t0.dof,.string t0.name,.slice t0.at_ t0.args.length t0.cap,.string t.dof,.string t.name,.slice (some ⟨b1,off1,none⟩) 1 t.cap] 25) => pats_any look b bC nC LC l A c [t0,t] (some ⟨k,0,none⟩) 2 HP.out W v hl (by simp) (by rw [H2.out]; exact Nat.le_refl _) ((HR.out.keep hW).wider hW.size) (fun q hq => (HA.out q hq).at_ hW hW.size) (row_tys (by rw [hAt,har]; exact hk) hk.lt) (fun u hu => by
     simp only [List.mem_cons,List.not_mem_nil,or_false] at hu
     rcases hu with rfl | rfl
     ·exact ⟨(htp.2.2 _ ht0m).at_ hW hW.size,hwp.2 _ ht0m⟩
     ·exact ⟨HT.out.at_ hW hW.size,HTW.out⟩) (HCK.out.next hW) (HSC.out.next hW) (HLO.out.next hW))
   have HB2D:=Lib.hid (HB2.out.drew)
   clear htp hwp hargs har hAt hb3f z0 z1 z2 ht0
   go_enter Tryz.func37,Tryz.ntmps37
   go_wp2_with fail
   refine region_mix (B3 w.heap.size (w.heap.size + 1) d s n A l.length c t.dof t.name b1 off1 t.cap t0) [(0,true),(1,true),(2,true),(3,true),(4,true),(5,true),(6,true),(7,true),(8,true),(9,false),(10,false),(11,true),(12,true),(13,false),(14,false)] 13 (by kernel_rfl) (by kernel_rfl) (HB3F.out _ (Below.refl _ _).drew) ?_
   simp only [pickM,List.filterMap_cons,List.getElem?_cons_zero,List.getElem?_cons_succ,List.filterMap_nil,Option.map_some]
   repeat
    refine wpMix_read ?_ (by rfl) (fun W hW => ?_) ?_
    rotate_left
    ·unfold B3 at hW
     go_simp
     try with_reducible rfl
    simp only [Act.put,List.setIfInBounds_toArray,List.set_cons_zero,List.set_cons_succ]
   have HBW3:=Lib.hid ((((Below.refl ((w.alloc (.cells #[.string d,.string s,.int .i64 n,.slice A l.length c] 28)).alloc (.cells #[.string t.dof,.string t.name,.slice t.at_ t.args.length t.cap] 25)).heap.size ((w.alloc (.cells #[.string d,.string s,.int .i64 n,.slice A l.length c] 28)).alloc (.cells #[.string t.dof,.string t.name,.slice t.at_ t.args.length t.cap] 25))).alloc (Nat.le_refl _) (.cells #[.string t0.dof,.string t0.name,.slice t0.at_ t0.args.length t0.cap,.string t.dof,.string t.name,.slice (some ⟨b1,off1,none⟩) 1 t.cap] 25))).drew)
   have HK3 : Hid (Blk ((((w.alloc (.cells #[.string d,.string s,.int .i64 n,.slice A l.length c] 28)).alloc (.cells #[.string t.dof,.string t.name,.slice t.at_ t.args.length t.cap] 25)).alloc (.cells #[.string t0.dof,.string t0.name,.slice t0.at_ t0.args.length t0.cap,.string t.dof,.string t.name,.slice (some ⟨b1,off1,none⟩) 1 t.cap] 25)).drew) (w.heap.size + 1 + 1) #[.string t0.dof,.string t0.name,.slice t0.at_ t0.args.length t0.cap,.string t.dof,.string t.name,.slice (some ⟨b1,off1,none⟩) 1 t.cap] 25):=Lib.hid (Blk.new' ((w.alloc (.cells #[.string d,.string s,.int .i64 n,.slice A l.length c] 28)).alloc (.cells #[.string t.dof,.string t.name,.slice t.at_ t.args.length t.cap] 25)) _ _ _ (by simp))
   have HB4:=Lib.hid (HB2.out.trans (HBW3.out.mono HB2.out.size))
   refine wpMix_step rfl (fun K hK => ?_)
   go_simp
   refine hK _ _ (fun _ => HB3F.out _ HBW3.out) ?_
   clear hK K
   generalize ((((w.alloc (.cells #[.string d,.string s,.int .i64 n,.slice A l.length c] 28)).alloc (.cells #[.string t.dof,.string t.name,.slice t.at_ t.args.length t.cap] 25)).alloc (.cells #[.string t0.dof,.string t0.name,.slice t0.at_ t0.args.length t0.cap,.string t.dof,.string t.name,.slice (some ⟨b1,off1,none⟩) 1 t.cap] 25)).drew) = w3 at HBW3 HK3 HB4 ⊢
   refine wpMix_step rfl (fun K hK => ?_)
   go_simp
   refine Calls.mono (HC.out _ _ HB4.out HK3.out) ?_
   rintro e w5 ⟨hb5,v5,rfl,hs5⟩
   have HB5:=Lib.hid (HB4.out.trans (hb5.mono HB4.out.size))
   have HS5:=Lib.hid hs5
   have HBW5:=Lib.hid (HBW3.out.trans (hb5.mono HBW3.out.size))
   refine hK _ _ (fun _ => HB3F.out _ HBW5.out) ?_
   clear hb5 hs5 hK K
   repeat
    refine wpMix_read ?_ (by rfl) (fun W hW => ?_) ?_
    rotate_left
    ·unfold B3 at hW
     go_simp
     try with_reducible rfl
    simp only [Act.put,List.setIfInBounds_toArray,List.set_cons_zero,List.set_cons_succ]
   iterate 2
    refine wpMix_step rfl (fun K hK => ?_)
    go_simp
    refine hK _ _ (fun _ => HB3F.out _ HBW5.out) ?_
    clear hK K
   refine wpMix_nil ?_
   refine NoPanic.normal ?_
   go_wp2_with fail
   exact bodyPost_ret (by simp [results,Tryz.results37,go_sem,HARGS.out]) rfl (CPost.mk HB5.out HS5.out)
 have HLEN:=Lib.hid (node_con_len HNODE.out hany hvar hint hbool hunit hnil hpair hcons)
 simp only [Bool.or_self,Bool.false_eq_true,if_false]
 have h20 : ∀ W,Below ((w.alloc (.cells #[.string d,.string s,.int .i64 n,.slice A l.length c] 28)).alloc (.cells #[.string t.dof,.string t.name,.slice t.at_ t.args.length t.cap] 25)).heap.size ((w.alloc (.cells #[.string d,.string s,.int .i64 n,.slice A l.length c] 28)).alloc (.cells #[.string t.dof,.string t.name,.slice t.at_ t.args.length t.cap] 25)) W → B20 w.heap.size b bC s ((lookL LC s).getD zMade) (lookL LC s).isSome W:=fun W hW => by
  have hwW : Below w.heap.size w W:=HB2.out.trans (hW.mono HB2.out.size)
  have hck:=HCK.out.next hwW
  exact ⟨(HBOX.out W hW).2.1,hck.cell,map_look_run hck.map s hs⟩
 have H20:=Lib.hid h20
 clear h20
 rcases hlk : lookL LC s with _ | mv
 ·rw [HLO.out.2 s hlk]
  have h20:=H20.out
  rw [hlk] at h20
  unfold zMade at h20
  have H20N:=Lib.hid h20
  have HSC20:=Lib.hid (HSC.out.next (HB2.out.trans (((Below.refl _ _).alloc (Nat.le_refl _) (.cells #[.string emptyS,.int .i64 0,.string emptyS,.bool false,.string emptyS,.string emptyS,.slice none 0 0] 119)).drew.mono HB2.out.size)))
  have HB20:=Lib.hid (HB2.out.trans (((Below.refl _ _).alloc (Nat.le_refl _) (.cells #[.string emptyS,.int .i64 0,.string emptyS,.bool false,.string emptyS,.string emptyS,.slice none 0 0] 119)).drew.mono HB2.out.size))
  clear h20 hlk H20
  dsimp only
  go_enter Tryz.func37,Tryz.ntmps37
  go_wp2_with fail
  refine region_mix (B20 w.heap.size b bC s (.agg #[.string emptyS,.int .i64 0,.string emptyS,.bool false,.string emptyS,.string emptyS,.slice none 0 0]) false) [(0,true),(1,true),(2,true),(3,true),(4,true),(5,true),(6,true),(7,true),(8,true),(9,true),(10,true),(11,false),(12,false),(13,false)] 13 (by kernel_rfl) (by kernel_rfl) (H20N.out _ (Below.refl _ _).drew) ?_
  simp only [pickM,List.filterMap_cons,List.getElem?_cons_zero,List.getElem?_cons_succ,List.filterMap_nil,Option.map_some]
  repeat
   refine wpMix_read ?_ (by rfl) (fun W hW => ?_) ?_
   rotate_left
   ·unfold B20 at hW
    go_simp
    try with_reducible rfl
   simp only [Act.put,List.setIfInBounds_toArray,List.set_cons_zero,List.set_cons_succ]
  iterate 3
   refine wpMix_step rfl (fun K hK => ?_)
   go_simp
   refine hK _ _ (fun _ => H20N.out _ (((Below.refl _ _).alloc (Nat.le_refl _) _).drew)) ?_
   clear hK K
  refine wpMix_nil ?_
  refine NoPanic.normal ?_
  go_wp2_with fail
  exact bodyPost_ret (by simp [results,Tryz.results37,go_sem]) rfl (CPost.mk HB20.out HSC20.out)
 ·obtain ⟨dn,i,cc,rfl,hci,hlook,hwt⟩:=HLO.out.1 s mv hlk
  rw [hlook]
  dsimp only
  have h20:=H20.out
  rw [hlk] at h20
  unfold madeV at h20
  have H20N:=Lib.hid h20
  have HWT:=Lib.hid hwt
  have HCI:=Lib.hid hci
  have HB20:=Lib.hid (HB2.out.trans (((Below.refl _ _).alloc (Nat.le_refl _) (.cells #[.string dn,.int .i64 i,.string cc.name,.bool cc.has,.string cc.ty.dof,.string cc.ty.name,.slice cc.ty.at_ cc.ty.args.length cc.ty.cap] 119)).drew.mono HB2.out.size))
  have HSC20:=Lib.hid (HSC.out.next HB20.out)
  have h23 : ∀ W,Below ((((w.alloc (.cells #[.string d,.string s,.int .i64 n,.slice A l.length c] 28)).alloc (.cells #[.string t.dof,.string t.name,.slice t.at_ t.args.length t.cap] 25)).alloc (.cells #[.string dn,.int .i64 i,.string cc.name,.bool cc.has,.string cc.ty.dof,.string cc.ty.name,.slice cc.ty.at_ cc.ty.args.length cc.ty.cap] 119)).drew).heap.size ((((w.alloc (.cells #[.string d,.string s,.int .i64 n,.slice A l.length c] 28)).alloc (.cells #[.string t.dof,.string t.name,.slice t.at_ t.args.length t.cap] 25)).alloc (.cells #[.string dn,.int .i64 i,.string cc.name,.bool cc.has,.string cc.ty.dof,.string cc.ty.name,.slice cc.ty.at_ cc.ty.args.length cc.ty.cap] 119)).drew) W → B23 w.heap.size (w.heap.size + 1 + 1) A l.length c cc.ty W:=fun W hW => by
   have k1:=((HK1.out.alloc (.cells #[.string dn,.int .i64 i,.string cc.name,.bool cc.has,.string cc.ty.dof,.string cc.ty.name,.slice cc.ty.at_ cc.ty.args.length cc.ty.cap] 119)).drewN 1).below hW (by have:=HK1.out.lt; simp; omega)
   have k2:=(Blk.new' ((w.alloc (.cells #[.string d,.string s,.int .i64 n,.slice A l.length c] 28)).alloc (.cells #[.string t.dof,.string t.name,.slice t.at_ t.args.length t.cap] 25)) #[.string dn,.int .i64 i,.string cc.name,.bool cc.has,.string cc.ty.dof,.string cc.ty.name,.slice cc.ty.at_ cc.ty.args.length cc.ty.cap] 119 (w.heap.size + 1 + 1) (by simp)).drewN 1 |>.below hW (by simp)
   exact ⟨k1.cell 3,k2.cell 4,k2.cell 5,k2.cell 6⟩
  have H23:=Lib.hid h23
  have hcc : ∀ hh,cc.has = hh → (cc.has = hh):=fun _ h => h
  clear h20 hlk H20 hlook hwt hci h23 hcc
  obtain ⟨tnm,htnm⟩ : ∃ x,(t.name.toList == dn.toList) = x:=⟨_,rfl⟩
  have htnm2:=bne_of htnm
  rw [htnm]
  cases udata
  case false =>
   go_enter Tryz.func37,Tryz.ntmps37
   go_wp2_with fail
   refine region_mix (B20 w.heap.size b bC s (.agg #[.string dn,.int .i64 i,.string cc.name,.bool cc.has,.string cc.ty.dof,.string cc.ty.name,.slice cc.ty.at_ cc.ty.args.length cc.ty.cap]) true) [(0,true),(1,true),(2,true),(3,true),(4,true),(5,true),(6,true),(7,true),(8,true),(9,true),(10,true),(11,false),(12,false),(13,false)] 13 (by kernel_rfl) (by kernel_rfl) (H20N.out _ (Below.refl _ _).drew) ?_
   simp only [pickM,List.filterMap_cons,List.getElem?_cons_zero,List.getElem?_cons_succ,List.filterMap_nil,Option.map_some]
   repeat
    refine wpMix_read ?_ (by rfl) (fun W hW => ?_) ?_
    rotate_left
    ·unfold B20 at hW
     go_simp
     try with_reducible rfl
    simp only [Act.put,List.setIfInBounds_toArray,List.set_cons_zero,List.set_cons_succ]
   iterate 3
    refine wpMix_step rfl (fun K hK => ?_)
    go_simp
    refine hK _ _ (fun _ => H20N.out _ (((Below.refl _ _).alloc (Nat.le_refl _) _).drew)) ?_
    clear hK K
   refine wpMix_nil ?_
   refine NoPanic.normal ?_
   go_wp2_with fail
   exact bodyPost_ret (by simp [results,Tryz.results37,go_sem]) rfl (CPost.mk HB20.out HSC20.out)
  cases tnm
  case false =>
   go_enter Tryz.func37,Tryz.ntmps37
   go_wp2_with fail
   refine region_mix (B20 w.heap.size b bC s (.agg #[.string dn,.int .i64 i,.string cc.name,.bool cc.has,.string cc.ty.dof,.string cc.ty.name,.slice cc.ty.at_ cc.ty.args.length cc.ty.cap]) true) [(0,true),(1,true),(2,true),(3,true),(4,true),(5,true),(6,true),(7,true),(8,true),(9,true),(10,true),(11,false),(12,false),(13,false)] 13 (by kernel_rfl) (by kernel_rfl) (H20N.out _ (Below.refl _ _).drew) ?_
   simp only [pickM,List.filterMap_cons,List.getElem?_cons_zero,List.getElem?_cons_succ,List.filterMap_nil,Option.map_some]
   repeat
    refine wpMix_read ?_ (by rfl) (fun W hW => ?_) ?_
    rotate_left
    ·unfold B20 at hW
     go_simp
     try with_reducible rfl
    simp only [Act.put,List.setIfInBounds_toArray,List.set_cons_zero,List.set_cons_succ]
   iterate 3
    refine wpMix_step rfl (fun K hK => ?_)
    go_simp
    refine hK _ _ (fun _ => H20N.out _ (((Below.refl _ _).alloc (Nat.le_refl _) _).drew)) ?_
    clear hK K
   refine wpMix_nil ?_
   refine NoPanic.normal ?_
   go_wp2_with fail
   exact bodyPost_ret (by simp [results,Tryz.results37,go_sem]) rfl (CPost.mk HB20.out HSC20.out)
  generalize hcc : cc.has = ch at H20N HB20 HSC20 H23 ⊢
  have HCC:=Lib.hid hcc
  clear hcc
  rcases l with _ | ⟨q,_ | ⟨q2,l2⟩⟩
  ·cases ch
   case true =>
    go_enter Tryz.func37,Tryz.ntmps37
    go_wp2_with fail
    refine region_mix (B20 w.heap.size b bC s (.agg #[.string dn,.int .i64 i,.string cc.name,.bool true,.string cc.ty.dof,.string cc.ty.name,.slice cc.ty.at_ cc.ty.args.length cc.ty.cap]) true) [(0,true),(1,true),(2,true),(3,true),(4,true),(5,true),(6,true),(7,true),(8,true),(9,true),(10,true),(11,false),(12,false),(13,false)] 13 (by kernel_rfl) (by kernel_rfl) (H20N.out _ (Below.refl _ _).drew) ?_
    simp only [pickM,List.filterMap_cons,List.getElem?_cons_zero,List.getElem?_cons_succ,List.filterMap_nil,Option.map_some]
    repeat
     refine wpMix_read ?_ (by rfl) (fun W hW => ?_) ?_
     rotate_left
     ·unfold B20 at hW
      go_simp
      try with_reducible rfl
     simp only [Act.put,List.setIfInBounds_toArray,List.set_cons_zero,List.set_cons_succ]
    iterate 3
     refine wpMix_step rfl (fun K hK => ?_)
     go_simp
     refine hK _ _ (fun _ => H20N.out _ (((Below.refl _ _).alloc (Nat.le_refl _) _).drew)) ?_
     clear hK K
    refine wpMix_nil ?_
    refine NoPanic.normal ?_
    go_wp2_with fail
    exact bodyPost_ret (by simp [results,Tryz.results37,go_sem]) rfl (CPost.mk HB20.out HSC20.out)
   case false =>
    go_enter Tryz.func37,Tryz.ntmps37
    go_wp2_with fail
    refine region_mix (B20 w.heap.size b bC s (.agg #[.string dn,.int .i64 i,.string cc.name,.bool false,.string cc.ty.dof,.string cc.ty.name,.slice cc.ty.at_ cc.ty.args.length cc.ty.cap]) true) [(0,true),(1,true),(2,true),(3,true),(4,true),(5,true),(6,true),(7,true),(8,true),(9,true),(10,true),(11,false),(12,false),(13,false)] 13 (by kernel_rfl) (by kernel_rfl) (H20N.out _ (Below.refl _ _).drew) ?_
    simp only [pickM,List.filterMap_cons,List.getElem?_cons_zero,List.getElem?_cons_succ,List.filterMap_nil,Option.map_some]
    repeat
     refine wpMix_read ?_ (by rfl) (fun W hW => ?_) ?_
     rotate_left
     ·unfold B20 at hW
      go_simp
      try with_reducible rfl
     simp only [Act.put,List.setIfInBounds_toArray,List.set_cons_zero,List.set_cons_succ]
    iterate 3
     refine wpMix_step rfl (fun K hK => ?_)
     go_simp
     refine hK _ _ (fun _ => H20N.out _ (((Below.refl _ _).alloc (Nat.le_refl _) _).drew)) ?_
     clear hK K
    refine wpMix_nil ?_
    refine NoPanic.normal ?_
    go_wp2_with fail
    generalize ((((w.alloc (.cells #[.string d,.string s,.int .i64 n,.slice A 0 c] 28)).alloc (.cells #[.string t.dof,.string t.name,.slice t.at_ t.args.length t.cap] 25)).alloc (.cells #[.string dn,.int .i64 i,.string cc.name,.bool false,.string cc.ty.dof,.string cc.ty.name,.slice cc.ty.at_ cc.ty.args.length cc.ty.cap] 119)).drew) = w20 at HB20 HSC20 H23 ⊢
    have HC:=Lib.hid (fun (W : World) (k : Nat) (hW : Below w.heap.size w W) (hk : Blk W k #[.string cc.ty.dof,.string cc.ty.name,.slice cc.ty.at_ cc.ty.args.length cc.ty.cap] 25) => pats_any look b bC nC LC [] A c [] (some ⟨k,0,none⟩) 1 HP.out W v (by simp) (by simp) (by simp) ((HR.out.keep hW).wider hW.size) (fun q hq => (HA.out q hq).at_ hW hW.size) (fun h => absurd h (by simp)) (fun u hu => absurd hu (by simp)) (HCK.out.next hW) (HSC.out.next hW) (HLO.out.next hW))
    have HBN:=Lib.hid (((Below.refl w20.heap.size w20).alloc (Nat.le_refl _) (.cells #[.string cc.ty.dof,.string cc.ty.name,.slice cc.ty.at_ cc.ty.args.length cc.ty.cap] 25)).drew)
    have HKN:=Lib.hid (show Blk ((w20.alloc (.cells #[.string cc.ty.dof,.string cc.ty.name,.slice cc.ty.at_ cc.ty.args.length cc.ty.cap] 25)).drew) w20.heap.size #[.string cc.ty.dof,.string cc.ty.name,.slice cc.ty.at_ cc.ty.args.length cc.ty.cap] 25 from Blk.new w20 _ _)
    have HB21:=Lib.hid (HB20.out.trans (HBN.out.mono HB20.out.size))
    refine region_mix (B23 w.heap.size (w.heap.size + 1 + 1) A 0 c cc.ty) [(0,true),(1,true),(2,true),(3,true),(4,true),(5,true),(6,true),(8,true),(9,true),(10,true),(7,false),(11,false),(12,false),(13,true),(14,true),(15,false),(16,false)] 15 (by kernel_rfl) (by kernel_rfl) (H23.out _ (Below.refl _ _).drew) ?_
    simp only [pickM,List.filterMap_cons,List.getElem?_cons_zero,List.getElem?_cons_succ,List.filterMap_nil,Option.map_some]
    repeat
     refine wpMix_read ?_ (by rfl) (fun W hW => ?_) ?_
     rotate_left
     ·unfold B23 at hW
      go_simp
      try with_reducible rfl
     simp only [Act.put,List.setIfInBounds_toArray,List.set_cons_zero,List.set_cons_succ]
    iterate 2
     refine wpMix_step rfl (fun K hK => ?_)
     go_simp
     refine hK _ _ (fun _ => H23.out _ HBN.out) ?_
     clear hK K
    refine wpMix_step rfl (fun K hK => ?_)
    go_simp
    refine Calls.mono (HC.out _ _ HB21.out HKN.out) ?_
    rintro e w5 ⟨hb5,v5,rfl,hs5⟩
    have HB5:=Lib.hid (HB21.out.trans (hb5.mono HB21.out.size))
    have HS5:=Lib.hid hs5
    have HBN5:=Lib.hid (HBN.out.trans (hb5.mono HBN.out.size))
    refine hK _ _ (fun _ => H23.out _ HBN5.out) ?_
    clear hb5 hs5 hK K
    repeat
     refine wpMix_read ?_ (by rfl) (fun W hW => ?_) ?_
     rotate_left
     ·unfold B23 at hW
      go_simp
      try with_reducible rfl
     simp only [Act.put,List.setIfInBounds_toArray,List.set_cons_zero,List.set_cons_succ]
    iterate 2
     refine wpMix_step rfl (fun K hK => ?_)
     go_simp
     refine hK _ _ (fun _ => H23.out _ HBN5.out) ?_
     clear hK K
    refine wpMix_nil ?_
    refine NoPanic.normal ?_
    go_wp2_with fail
    exact bodyPost_ret (by simp [results,Tryz.results37,go_sem]) rfl (CPost.mk HB5.out HS5.out)
  ·cases ch
   case false =>
    go_enter Tryz.func37,Tryz.ntmps37
    go_wp2_with fail
    refine region_mix (B20 w.heap.size b bC s (.agg #[.string dn,.int .i64 i,.string cc.name,.bool false,.string cc.ty.dof,.string cc.ty.name,.slice cc.ty.at_ cc.ty.args.length cc.ty.cap]) true) [(0,true),(1,true),(2,true),(3,true),(4,true),(5,true),(6,true),(7,true),(8,true),(9,true),(10,true),(11,false),(12,false),(13,false)] 13 (by kernel_rfl) (by kernel_rfl) (H20N.out _ (Below.refl _ _).drew) ?_
    simp only [pickM,List.filterMap_cons,List.getElem?_cons_zero,List.getElem?_cons_succ,List.filterMap_nil,Option.map_some]
    repeat
     refine wpMix_read ?_ (by rfl) (fun W hW => ?_) ?_
     rotate_left
     ·unfold B20 at hW
      go_simp
      try with_reducible rfl
     simp only [Act.put,List.setIfInBounds_toArray,List.set_cons_zero,List.set_cons_succ]
    iterate 3
     refine wpMix_step rfl (fun K hK => ?_)
     go_simp
     refine hK _ _ (fun _ => H20N.out _ (((Below.refl _ _).alloc (Nat.le_refl _) _).drew)) ?_
     clear hK K
    refine wpMix_nil ?_
    refine NoPanic.normal ?_
    go_wp2_with fail
    exact bodyPost_ret (by simp [results,Tryz.results37,go_sem]) rfl (CPost.mk HB20.out HSC20.out)
   case true =>
    go_enter Tryz.func37,Tryz.ntmps37
    go_wp2_with fail
    refine region_mix (B20 w.heap.size b bC s (.agg #[.string dn,.int .i64 i,.string cc.name,.bool true,.string cc.ty.dof,.string cc.ty.name,.slice cc.ty.at_ cc.ty.args.length cc.ty.cap]) true) [(0,true),(1,true),(2,true),(3,true),(4,true),(5,true),(6,true),(7,true),(8,true),(9,true),(10,true),(11,false),(12,false),(13,false)] 13 (by kernel_rfl) (by kernel_rfl) (H20N.out _ (Below.refl _ _).drew) ?_
    simp only [pickM,List.filterMap_cons,List.getElem?_cons_zero,List.getElem?_cons_succ,List.filterMap_nil,Option.map_some]
    repeat
     refine wpMix_read ?_ (by rfl) (fun W hW => ?_) ?_
     rotate_left
     ·unfold B20 at hW
      go_simp
      try with_reducible rfl
     simp only [Act.put,List.setIfInBounds_toArray,List.set_cons_zero,List.set_cons_succ]
    iterate 3
     refine wpMix_step rfl (fun K hK => ?_)
     go_simp
     refine hK _ _ (fun _ => H20N.out _ (((Below.refl _ _).alloc (Nat.le_refl _) _).drew)) ?_
     clear hK K
    refine wpMix_nil ?_
    refine NoPanic.normal ?_
    go_wp2_with fail
    generalize ((((w.alloc (.cells #[.string d,.string s,.int .i64 n,.slice A 1 c] 28)).alloc (.cells #[.string t.dof,.string t.name,.slice t.at_ t.args.length t.cap] 25)).alloc (.cells #[.string dn,.int .i64 i,.string cc.name,.bool true,.string cc.ty.dof,.string cc.ty.name,.slice cc.ty.at_ cc.ty.args.length cc.ty.cap] 119)).drew) = w20 at HB20 HSC20 H23 ⊢
    have HC:=Lib.hid (fun (W : World) (k : Nat) (hW : Below w.heap.size w W) (hk : Blk W k #[.string cc.ty.dof,.string cc.ty.name,.slice cc.ty.at_ cc.ty.args.length cc.ty.cap] 25) => pats_any look b bC nC LC [q] A c [cc.ty] (some ⟨k,0,none⟩) 1 HP.out W v (by simp) (by simp) (by simp) ((HR.out.keep hW).wider hW.size) (fun q hq => (HA.out q hq).at_ hW hW.size) (row_ty1 hk hk.lt) (fun u hu => by
     simp only [List.mem_cons,List.not_mem_nil,or_false] at hu
     subst hu
     exact ⟨HCI.out.2.at_ hW hW.size,HWT.out HCC.out⟩) (HCK.out.next hW) (HSC.out.next hW) (HLO.out.next hW))
    have HBN:=Lib.hid (((Below.refl w20.heap.size w20).alloc (Nat.le_refl _) (.cells #[.string cc.ty.dof,.string cc.ty.name,.slice cc.ty.at_ cc.ty.args.length cc.ty.cap] 25)).drew)
    have HKN:=Lib.hid (show Blk ((w20.alloc (.cells #[.string cc.ty.dof,.string cc.ty.name,.slice cc.ty.at_ cc.ty.args.length cc.ty.cap] 25)).drew) w20.heap.size #[.string cc.ty.dof,.string cc.ty.name,.slice cc.ty.at_ cc.ty.args.length cc.ty.cap] 25 from Blk.new w20 _ _)
    have HB21:=Lib.hid (HB20.out.trans (HBN.out.mono HB20.out.size))
    refine region_mix (B23 w.heap.size (w.heap.size + 1 + 1) A 1 c cc.ty) [(0,true),(1,true),(2,true),(3,true),(4,true),(5,true),(6,true),(8,true),(9,true),(10,true),(7,false),(11,false),(12,false),(13,true),(14,true),(15,false),(16,false)] 15 (by kernel_rfl) (by kernel_rfl) (H23.out _ (Below.refl _ _).drew) ?_
    simp only [pickM,List.filterMap_cons,List.getElem?_cons_zero,List.getElem?_cons_succ,List.filterMap_nil,Option.map_some]
    repeat
     refine wpMix_read ?_ (by rfl) (fun W hW => ?_) ?_
     rotate_left
     ·unfold B23 at hW
      go_simp
      try with_reducible rfl
     simp only [Act.put,List.setIfInBounds_toArray,List.set_cons_zero,List.set_cons_succ]
    iterate 2
     refine wpMix_step rfl (fun K hK => ?_)
     go_simp
     refine hK _ _ (fun _ => H23.out _ HBN.out) ?_
     clear hK K
    refine wpMix_step rfl (fun K hK => ?_)
    go_simp
    refine Calls.mono (HC.out _ _ HB21.out HKN.out) ?_
    rintro e w5 ⟨hb5,v5,rfl,hs5⟩
    have HB5:=Lib.hid (HB21.out.trans (hb5.mono HB21.out.size))
    have HS5:=Lib.hid hs5
    have HBN5:=Lib.hid (HBN.out.trans (hb5.mono HBN.out.size))
    refine hK _ _ (fun _ => H23.out _ HBN5.out) ?_
    clear hb5 hs5 hK K
    repeat
     refine wpMix_read ?_ (by rfl) (fun W hW => ?_) ?_
     rotate_left
     ·unfold B23 at hW
      go_simp
      try with_reducible rfl
     simp only [Act.put,List.setIfInBounds_toArray,List.set_cons_zero,List.set_cons_succ]
    iterate 2
     refine wpMix_step rfl (fun K hK => ?_)
     go_simp
     refine hK _ _ (fun _ => H23.out _ HBN5.out) ?_
     clear hK K
    refine wpMix_nil ?_
    refine NoPanic.normal ?_
    go_wp2_with fail
    exact bodyPost_ret (by simp [results,Tryz.results37,go_sem]) rfl (CPost.mk HB5.out HS5.out)
  ·exact absurd HLEN.out (by simp)
end Go.Proofs.YtjeggkfgdhepaaaGreatDoor

namespace Go.Proofs.YtjeggkfgdhepaaaGreatDoor
open Go.RowKit
open Go.Proofs
open Go.Maps
def lookOf (l : List Dt) : Look:=fun s => ((tags l l.length).find? fun x => x.con.name.toList == s.toList).map fun x => (x.1,x.con)
theorem lookOk_of {l : List Dt} {w : World} (hall : ∀ d ∈ l,d.In w.heap.size w) (hw : worldB l = true) : LookOk (lTo l l.length) (lookOf l) w:=by
 have hth : (allCons l).all (fun c => !c.has || c.ty.there (dTo l l.length)) = true:=by
  unfold worldB at hw
  simp only [Bool.and_eq_true] at hw
  exact hw.2.2.2.2
 refine ⟨fun s v hv => ?_,fun s hn => ?_⟩
 ·rw [lTo_tags,lookL_map] at hv
  obtain ⟨x,hx,rfl⟩:=Option.map_eq_some_iff.1 hv
  have hm:=tags_mem (List.mem_of_find?_eq_some hx)
  obtain ⟨d,hd,hc⟩:=allCons_mem hm
  refine ⟨x.1,x.2.1,x.2.2,rfl,(hall d hd).2.2.2.2 _ hc, ?_,fun hh => ?_⟩
  ·unfold lookOf
   rw [hx]
   rfl
  ·have h:=List.all_eq_true.1 hth _ hm
   rw [show x.con.has = true from hh] at h
   unfold Ty.there Ty.valid at h
   simp only [Bool.not_true,Bool.false_or,Bool.and_eq_true] at h
   exact h.1.1
 ·rw [lTo_tags,lookL_map,Option.map_eq_none_iff] at hn
  unfold lookOf
  rw [hn]
  rfl
structure DtsIn (B : Nat) (w : World) (A : Option Addr) (l : List Dt) : Prop where
 row : RowAt B w 2 A (l.map Dt.cells)
 each : ∀ d ∈ l,d.In B w
 len : l.length ≤ 1048576
 cons : consN l l.length ≤ 1048576
theorem DtsIn.at_ {B : Nat} {w w' : World} {A : Option Addr} {l : List Dt} (h : DtsIn B w A l) (hb : Below B w w') (hB : B ≤ w'.heap.size) : DtsIn w'.heap.size w' A l:=⟨(h.row.keep hb).wider hB,fun d hd => (h.each d hd).at_ hb hB,h.len,h.cons⟩
theorem DtsIn.next {w w' : World} {A : Option Addr} {l : List Dt} (h : DtsIn w.heap.size w A l) (hb : Below w.heap.size w w') : DtsIn w'.heap.size w' A l:=h.at_ hb hb.size
def askB (l : List Dt) (t : Ty) (p : Pt) : Bool:=worldB l && (t.there (dTo l l.length) && p.patB)
def fitsErr (ok : Bool) : Int:=if ok then 0 else 40
set_option maxRecDepth 100000 in
set_option maxHeartbeats 4000000 in
theorem fitsP_any (A : Option Addr) (l : List Dt) (c : Nat) (t : Ty) (p : Pt) (w : World) (h : Env w) (hd : DtsIn w.heap.size w A l) (ht : t.In w.heap.size w) (hp : p.In w.heap.size w) (hbd : p.binds.length ≤ 1048576) :
  Calls Tryz.prog 11 #[.slice A l.length c,t.val,p.val] w fun e w' => e = .returned (.tuple #[.bool (askB l t p && p.fit (lookOf l) t),.int .i64 (fitsErr (askB l t p))]) ∧ Below w.heap.size w w':=by
 have HE:=Lib.hid h
 have HD:=Lib.hid hd
 have HT:=Lib.hid ht
 have HP:=Lib.hid hp
 have HC1:=Lib.hid (fun (W : World) (hW : Below w.heap.size w W) => world_any A l c W (HE.out.next hW) (HD.out.next hW).row (HD.out.next hW).each (HD.out.next hW).len (HD.out.next hW).cons)
 have HC2:=Lib.hid (fun (W : World) (hW : Below w.heap.size w W) (b1 c1 x1 : Nat) (hm : MapAt ofV W b1 l.length (dTo l l.length)) => there_any b1 c1 x1 l.length (dTo l l.length) (dTo_shape l l.length) t W (HE.out.next hW) (HT.out.next hW) hm)
 have HC3:=Lib.hid (fun (W : World) (hW : Below w.heap.size w W) => isPat_any p W (HE.out.next hW) (HP.out.next hW) hbd)
 have HC4:=Lib.hid (fun (hw : worldB l = true) (hth : t.there (dTo l l.length) = true) (hpb : p.patB = true) (W : World) (hW : Below w.heap.size w W) (b bC : Nat) (hck : CkAt W b bC (consN l l.length) (lTo l l.length)) =>
  cpat_any (lookOf l) b bC (consN l l.length) (lTo l l.length) p t W (.pointer none) (HP.out.next hW) (by unfold Pt.patB Pt.okS at hpb; simp only [Bool.and_eq_true] at hpb; exact hpb.1.1) (HT.out.next hW) (by unfold Ty.there Ty.valid at hth; simp only [Bool.and_eq_true] at hth; exact hth.1.1) hck (.inl rfl) (lookOk_of (HD.out.next hW).each hw))
 unfold askB
 clear h hd ht hp hbd
 have HB0:=Lib.hid (((Below.refl w.heap.size w).alloc (Nat.le_refl _) (.cells #[.string t.dof,.string t.name,.slice t.at_ t.args.length t.cap] 25)).alloc (by simp) (.cells #[.string p.dof,.string p.name,.int .i64 p.num,.slice p.at_ p.args.length p.cap] 28))
 have K1:=Lib.hid ((Blk.new w #[.string t.dof,.string t.name,.slice t.at_ t.args.length t.cap] 25).alloc (.cells #[.string p.dof,.string p.name,.int .i64 p.num,.slice p.at_ p.args.length p.cap] 28))
 have K2:=Lib.hid (Blk.new' (w.alloc (.cells #[.string t.dof,.string t.name,.slice t.at_ t.args.length t.cap] 25)) #[.string p.dof,.string p.name,.int .i64 p.num,.slice p.at_ p.args.length p.cap] 28 (w.heap.size + 1) (by simp))
 unfold WorldPost at HC1
 generalize hwb : worldB l = wb at HC1 HC4
 generalize hth : t.there (dTo l l.length) = th at HC2 HC4
 generalize hpb : p.patB = pb at HC3 HC4
 generalize p.fit (lookOf l) t = ft at HC4 ⊢
 clear hwb hth hpb
 unfold Pt.val Ty.val wVal at *
 go_enter Tryz.func11,Tryz.ntmps11
 go_wp2_with fail
 refine Calls.mono (HC1.out _ HB0.out) ?_
 rintro e w1 ⟨bD,bC,bE,rfl,hb1,hm1,hm2,hm3⟩
 have HB1:=Lib.hid (HB0.out.trans (hb1.mono HB0.out.size))
 have K11:=Lib.hid (K1.out.below hb1 K1.out.lt)
 have K21:=Lib.hid (K2.out.below hb1 K2.out.lt)
 have HBW:=Lib.hid ((Below.refl w1.heap.size w1).alloc (Nat.le_refl _) (.cells #[.map (some bD),.map (some bC),.map (some bE)] 63))
 have HB2:=Lib.hid (HB1.out.trans (HBW.out.mono HB1.out.size))
 have M1:=Lib.hid (hm1.next HBW.out)
 have M2:=Lib.hid (hm2.next HBW.out)
 have K12:=Lib.hid (K11.out.below HBW.out K11.out.lt)
 have K22:=Lib.hid (K21.out.below HBW.out K21.out.lt)
 have K3:=Lib.hid (Blk.new w1 #[.map (some bD),.map (some bC),.map (some bE)] 63)
 clear hb1 hm1 hm2 hm3
 obtain ⟨y0,y1,y2⟩:=K12.out.three
 obtain ⟨z0,z1,z2,z3⟩:=K22.out.four
 have yl:=K12.out.lt
 have zl:=K22.out.lt
 cases wb
 case false =>
  go_wp2_with fail
  exact bodyPost_ret (v:=.tuple #[.bool false,.int .i64 40]) (by simp [results,Tryz.results11,go_sem]) rfl ⟨by simp [fitsErr],HB2.out⟩
 cases th
 case false =>
  go_wp2_with fail
  refine Calls.mono (HC2.out _ HB2.out bD bC bE M1.out) ?_
  rintro e w2 ⟨rfl,hb2⟩
  have HB3:=Lib.hid (HB2.out.trans (hb2.mono HB2.out.size))
  clear hb2
  go_wp2_with fail
  exact bodyPost_ret (v:=.tuple #[.bool false,.int .i64 40]) (by simp [results,Tryz.results11,go_sem]) rfl ⟨by simp [fitsErr],HB3.out⟩
 go_wp2_with fail
 refine Calls.mono (HC2.out _ HB2.out bD bC bE M1.out) ?_
 rintro e w2 ⟨rfl,hb2⟩
 have HB3:=Lib.hid (HB2.out.trans (hb2.mono HB2.out.size))
 have K13:=Lib.hid (K12.out.below hb2 K12.out.lt)
 have K23:=Lib.hid (K22.out.below hb2 K22.out.lt)
 have K33:=Lib.hid (K3.out.below hb2 K3.out.lt)
 have M23:=Lib.hid (M2.out.next hb2)
 clear hb2 y0 y1 y2 z0 z1 z2 z3 yl zl
 obtain ⟨y0,y1,y2⟩:=K13.out.three
 obtain ⟨z0,z1,z2,z3⟩:=K23.out.four
 have yl:=K13.out.lt
 have zl:=K23.out.lt
 cases pb
 case false =>
  go_wp2_with fail
  refine Calls.mono (HC3.out _ HB3.out) ?_
  rintro e w3 ⟨rfl,hb3⟩
  have HB4:=Lib.hid (HB3.out.trans (hb3.mono HB3.out.size))
  clear hb3
  go_wp2_with fail
  exact bodyPost_ret (v:=.tuple #[.bool false,.int .i64 40]) (by simp [results,Tryz.results11,go_sem]) rfl ⟨by simp [fitsErr],HB4.out⟩
 go_wp2_with fail
 refine Calls.mono (HC3.out _ HB3.out) ?_
 rintro e w3 ⟨rfl,hb3⟩
 have HB4:=Lib.hid (HB3.out.trans (hb3.mono HB3.out.size))
 have K14:=Lib.hid (K13.out.below hb3 K13.out.lt)
 have K24:=Lib.hid (K23.out.below hb3 K23.out.lt)
 have K34:=Lib.hid (K33.out.below hb3 K33.out.lt)
 have M24:=Lib.hid (M23.out.next hb3)
 clear hb3 y0 y1 y2 z0 z1 z2 z3 yl zl
 obtain ⟨y0,y1,y2⟩:=K14.out.three
 obtain ⟨z0,z1,z2,z3⟩:=K24.out.four
 obtain ⟨x0,x1,x2⟩:=K34.out.three
 have yl:=K14.out.lt
 have zl:=K24.out.lt
 have xl:=K34.out.lt
 have HBK:=Lib.hid ((Below.refl w3.heap.size w3).alloc (Nat.le_refl _) (.cells #[.map (some bD),.map (some bC),.map (some bE),.slice none 0 0,.bool false,.string emptyS,.string emptyS,.slice none 0 0,.slice none 0 0] 71))
 have HB5:=Lib.hid (HB4.out.trans (HBK.out.mono HB4.out.size))
 have KC:=Lib.hid (Blk.new w3 #[.map (some bD),.map (some bC),.map (some bE),.slice none 0 0,.bool false,.string emptyS,.string emptyS,.slice none 0 0,.slice none 0 0] 71)
 have HCK:=Lib.hid (show CkAt _ w3.heap.size bC (consN l l.length) (lTo l l.length) from ⟨KC.out.lt,KC.out.cell 1,M24.out.next HBK.out⟩)
 go_wp2_with fail
 refine Calls.mono (HC4.out (by simp) (by simp) (by simp) _ HB5.out _ bC HCK.out) ?_
 rintro e w5 ⟨hb5,v5,rfl,-⟩
 have HB6:=Lib.hid (HB5.out.trans (hb5.mono HB5.out.size))
 clear hb5
 go_wp2_with fail
 exact bodyPost_ret (v:=.tuple #[.bool ft,.int .i64 0]) (by simp [results,Tryz.results11,go_sem]) rfl ⟨by simp [fitsErr],HB6.out⟩
end Go.Proofs.YtjeggkfgdhepaaaGreatDoor

namespace Go.Proofs.YtjeggkfgdhepaaaGreatDoor
open Go.RowKit
open Go.Proofs
open Go.Maps
theorem put_to (v : Value) {K : Act → World → Prop} {A : Act} {d : Option Nat} {w : World} (h : K (A.put d v) w) : K (A.put d v) w:=h
def nodesTo (ps : List Pt) (k : Nat) : Int:=(ps.take k).foldl (fun a p => wrap64 (a + p.size.nodes)) 0
theorem nodesTo_succ {ps : List Pt} {k : Nat} {p : Pt} (h : ps[k]? = some p) : nodesTo ps (k + 1) = wrap64 (nodesTo ps k + p.size.nodes):=by
 unfold nodesTo
 rw [List.take_add_one,h]
 simp [List.foldl_append]
def fitB (l : List Dt) (t : Ty) (p : Pt) : Bool:=askB l t p && p.fit (lookOf l) t
def askedErr (l : List Dt) (t : Ty) (ps : List Pt) : Int:=
 if ps.all (fitB l t) && (worldB l && (t.there (dTo l l.length) && decide (ps.length ≤ 12))) then if nodesTo ps ps.length > 60 then 4 else 0 else 40
def SeekC (SK : World → Value → Prop) (l : List Dt) (w : World) : Prop:=
 ∀ (W : World) (bD bC bE : Nat),Below w.heap.size w W → MapAt ofV W bD l.length (dTo l l.length) → MapAt ofV W bC (consN l l.length) (lTo l l.length) → MapAt ofV W bE 4 (eTo 4) →
  Calls Tryz.prog 83 #[wVal bD bC bE] W fun e w' => Below W.heap.size W w' ∧ ∃ v,e = .returned v ∧ SK w' v
def AskPost (SK : World → Value → Prop) (w : World) (err : Int) (e : Ending) (w' : World) : Prop:=
 Below w.heap.size w w' ∧ ((err = 0 ∧ ∃ v,e = .returned (.tuple #[v,.int .i64 0]) ∧ SK w' v) ∨ (err ≠ 0 ∧ e = .returned (.tuple #[.pointer none,.int .i64 err])))
set_option maxRecDepth 100000 in
set_option maxHeartbeats 4000000 in
theorem asked_any (SK : World → Value → Prop) (A : Option Addr) (l : List Dt) (c : Nat) (t : Ty) (Ap : Option Addr) (ps : List Pt) (cp : Nat) (w : World) (hsk : askedErr l t ps = 0 → SeekC SK l w) (h : Env w) (hd : DtsIn w.heap.size w A l) (ht : t.In w.heap.size w) (hp : PtsIn w.heap.size w Ap ps) :
  Calls Tryz.prog 43 #[.slice A l.length c,t.val,.slice Ap ps.length cp] w (AskPost SK w (askedErr l t ps)):=by
 have HE:=Lib.hid h
 have HD:=Lib.hid hd
 have HT:=Lib.hid ht
 have HP:=Lib.hid hp
 have HSK:=Lib.hid hsk
 have hlen:=hp.len
 have HC1:=Lib.hid (fun (W : World) (hW : Below w.heap.size w W) => world_any A l c W (HE.out.next hW) (HD.out.next hW).row (HD.out.next hW).each (HD.out.next hW).len (HD.out.next hW).cons)
 have HC2:=Lib.hid (fun (W : World) (hW : Below w.heap.size w W) (b1 c1 x1 : Nat) (hm : MapAt ofV W b1 l.length (dTo l l.length)) => there_any b1 c1 x1 l.length (dTo l l.length) (dTo_shape l l.length) t W (HE.out.next hW) (HT.out.next hW) hm)
 have HCF:=Lib.hid (fun (W : World) (hW : Below w.heap.size w W) (p : Pt) (hm : p ∈ ps) => fitsP_any A l c t p W (HE.out.next hW) (HD.out.next hW) (HT.out.next hW) ((HP.out.at_ hW hW.size).each p hm) (HP.out.binds p hm))
 have HCS:=Lib.hid (fun (W : World) (hW : Below w.heap.size w W) (p : Pt) (hm : p ∈ ps) => ofPat_any p W ((HP.out.at_ hW hW.size).each p hm))
 clear h hd ht hp hsk
 have HB0:=Lib.hid ((Below.refl w.heap.size w).alloc (Nat.le_refl _) (.cells #[.string t.dof,.string t.name,.slice t.at_ t.args.length t.cap] 25))
 have K0:=Lib.hid (Blk.new w #[.string t.dof,.string t.name,.slice t.at_ t.args.length t.cap] 25)
 unfold Ty.val
 go_enter Tryz.func43,Tryz.ntmps43
 go_wp2_with fail
 go_loopw [17,8] (fun iv nv wr => ∃ k : Nat,iv = .int .i64 k ∧ nv = .int .i64 (nodesTo ps k) ∧ k ≤ ps.length ∧ Hid (Below w.heap.size w wr) ∧ Hid (Blk wr w.heap.size #[.string t.dof,.string t.name,.slice t.at_ t.args.length t.cap] 25) ∧ Hid ((ps.take k).all (fitB l t) = true)) (fun iv _ _ => ps.length - (intOf iv).toNat)
 case atStart => exact ⟨0,rfl,rfl,Nat.zero_le _,HB0.out,K0.out,Lib.hid rfl⟩
 case round =>
  obtain ⟨k,rfl,rfl,hk,HB,HK,HF⟩:=hrel
  by_cases hlt : k < ps.length
  ·obtain ⟨q,b0,off,hq,hmem,rfl,hb,x0,x1,x2,x3⟩:=Pt.arg_at HP.out.row HB.out hlt
   have HQ:=Lib.hid hq
   have HBA:=Lib.hid ((Below.refl wr.heap.size wr).alloc (Nat.le_refl _) (.cells #[.string q.dof,.string q.name,.int .i64 q.num,.slice q.at_ q.args.length q.cap] 28))
   have HB1:=Lib.hid (HB.out.trans (HBA.out.mono HB.out.size))
   have HK1:=Lib.hid (HK.out.alloc (.cells #[.string q.dof,.string q.name,.int .i64 q.num,.slice q.at_ q.args.length q.cap] 28))
   have HQ1:=Lib.hid (Blk.new wr #[.string q.dof,.string q.name,.int .i64 q.num,.slice q.at_ q.args.length q.cap] 28)
   have HC:=Lib.hid (HCF.out _ HB1.out q hmem)
   have HS:=Lib.hid (fun W hW => HCS.out W hW q hmem)
   obtain ⟨y0,y1,y2⟩:=HK.out.three
   have yl:=HK.out.lt
   unfold Pt.val Ty.val at *
   generalize hab : askB l t q = ab at HC
   generalize hft : q.fit (lookOf l) t = ft at HC
   have HAB:=Lib.hid hab
   have HFT:=Lib.hid hft
   have hsz:=nodesTo_succ hq
   clear hq hab hft
   have HNO : Hid (fitB l t q = false → askedErr l t ps = 40):=Lib.hid fun hf => by
    unfold askedErr
    rw [all_no HQ.out hf]
    rfl
   cases ab
   case false =>
    have HN:=Lib.hid (HNO.out (by unfold fitB; rw [HAB.out]; rfl))
    go_wp2_with fail
    refine Calls.mono HC.out ?_
    rintro e w2 ⟨rfl,hb2⟩
    have HB2:=Lib.hid (HB1.out.trans (hb2.mono HB1.out.size))
    clear hb2
    simp only [fitsErr,Bool.false_and,Bool.false_eq_true,if_false]
    go_wp2_with fail
    exact bodyPost_ret (v:=.tuple #[.pointer none,.int .i64 40]) (by simp [results,Tryz.results43,go_sem]) rfl ⟨HB2.out,.inr ⟨by rw [HN.out]; decide,by rw [HN.out]⟩⟩
   cases ft
   case false =>
    have HN:=Lib.hid (HNO.out (by unfold fitB; rw [HAB.out,HFT.out]; rfl))
    go_wp2_with fail
    refine Calls.mono HC.out ?_
    rintro e w2 ⟨rfl,hb2⟩
    have HB2:=Lib.hid (HB1.out.trans (hb2.mono HB1.out.size))
    clear hb2
    simp only [fitsErr,Bool.and_false,if_true]
    go_wp2_with fail
    exact bodyPost_ret (v:=.tuple #[.pointer none,.int .i64 40]) (by simp [results,Tryz.results43,go_sem]) rfl ⟨HB2.out,.inr ⟨by rw [HN.out]; decide,by rw [HN.out]⟩⟩
   have HOK:=Lib.hid (all_take_succ HQ.out HF.out (by unfold fitB; rw [HAB.out,HFT.out]; rfl))
   have HSZ:=Lib.hid hsz
   clear hsz
   go_wp2_with fail
   refine Calls.mono HC.out ?_
   rintro e w2 ⟨rfl,hb2⟩
   have HB2:=Lib.hid (HB1.out.trans (hb2.mono HB1.out.size))
   have HK2:=Lib.hid (HK1.out.below hb2 HK1.out.lt)
   have HQ2:=Lib.hid (HQ1.out.below hb2 HQ1.out.lt)
   clear hb2 y0 y1 y2 yl
   obtain ⟨z0,z1,z2,z3⟩:=HQ2.out.four
   have zl:=HQ2.out.lt
   simp only [fitsErr,Bool.and_self,if_true]
   go_wp2_with fail
   refine Calls.mono (HS.out _ HB2.out) ?_
   rintro e w3 ⟨rfl,hb3⟩
   have HB3:=Lib.hid (HB2.out.trans (hb3.mono HB2.out.size))
   have HK3:=Lib.hid (HK2.out.below hb3 HK2.out.lt)
   clear hb3 z0 z1 z2 z3 zl
   go_wp2_with fail
   refine put_to (.int .i64 q.size.nodes) ?_
   go_wp2_with fail
   refine ⟨⟨k + 1,by go_num,by rw [HSZ.out],by omega,HB3.out,HK3.out,HOK.out⟩,by simp [intOf]; omega⟩
  ·have hk2 : k = ps.length:=by omega
   have hall:=HF.out
   rw [hk2,List.take_length] at hall
   have HALL:=Lib.hid hall
   obtain ⟨nn,hnn⟩ : ∃ nn,nodesTo ps k = nn:=⟨_,rfl⟩
   have HNN:=Lib.hid (show nodesTo ps ps.length = nn by rw [← hk2]; exact hnn)
   rw [hnn]
   clear hk2 hall hnn HF
   unfold WorldPost at HC1
   generalize hwb : worldB l = wb at HC1
   generalize hth : t.there (dTo l l.length) = th at HC2
   have HWB:=Lib.hid hwb
   have HTH:=Lib.hid hth
   have HNE : Hid ((wb && (th && decide (ps.length ≤ 12))) = false → askedErr l t ps = 40):=Lib.hid fun hf => by
    unfold askedErr
    rw [HWB.out,HTH.out,hf,Bool.and_false]
    rfl
   clear hwb hth
   unfold Ty.val wVal at *
   go_wp2_with fail
   refine Calls.mono (HC1.out _ HB.out) ?_
   rintro e w1 ⟨bD,bC,bE,rfl,hb1,hm1,hm2,hm3⟩
   have HBW:=Lib.hid ((Below.refl w1.heap.size w1).alloc (Nat.le_refl _) (.cells #[.map (some bD),.map (some bC),.map (some bE)] 63))
   have HB1:=Lib.hid (HB.out.trans (hb1.mono HB.out.size))
   have HB2:=Lib.hid (HB1.out.trans (HBW.out.mono HB1.out.size))
   have M1:=Lib.hid (hm1.next HBW.out)
   have M2:=Lib.hid (hm2.next HBW.out)
   have M3:=Lib.hid (hm3.next HBW.out)
   have HK2:=Lib.hid ((HK.out.below hb1 HK.out.lt).below HBW.out (HK.out.below hb1 HK.out.lt).lt)
   have HW2:=Lib.hid (Blk.new w1 #[.map (some bD),.map (some bC),.map (some bE)] 63)
   clear hb1 hm1 hm2 hm3
   obtain ⟨y0,y1,y2⟩:=HK2.out.three
   have yl:=HK2.out.lt
   cases wb
   case false =>
    have HN:=Lib.hid (HNE.out rfl)
    go_wp2_with fail
    exact bodyPost_ret (v:=.tuple #[.pointer none,.int .i64 40]) (by simp [results,Tryz.results43,go_sem]) rfl ⟨HB2.out,.inr ⟨by rw [HN.out]; decide,by rw [HN.out]⟩⟩
   cases th
   case false =>
    have HN:=Lib.hid (HNE.out rfl)
    go_wp2_with fail
    refine Calls.mono (HC2.out _ HB2.out bD bC bE M1.out) ?_
    rintro e w2 ⟨rfl,hb2⟩
    have HB3:=Lib.hid (HB2.out.trans (hb2.mono HB2.out.size))
    clear hb2
    go_wp2_with fail
    exact bodyPost_ret (v:=.tuple #[.pointer none,.int .i64 40]) (by simp [results,Tryz.results43,go_sem]) rfl ⟨HB3.out,.inr ⟨by rw [HN.out]; decide,by rw [HN.out]⟩⟩
   by_cases h12 : ps.length ≤ 12
   case neg =>
    have HN:=Lib.hid (HNE.out (by simp [h12]))
    have h12' : (12 : Int) < ps.length:=by omega
    go_wp2_with fail
    refine Calls.mono (HC2.out _ HB2.out bD bC bE M1.out) ?_
    rintro e w2 ⟨rfl,hb2⟩
    have HB3:=Lib.hid (HB2.out.trans (hb2.mono HB2.out.size))
    clear hb2
    go_wp2_with fail
    exact bodyPost_ret (v:=.tuple #[.pointer none,.int .i64 40]) (by simp [results,Tryz.results43,go_sem]) rfl ⟨HB3.out,.inr ⟨by rw [HN.out]; decide,by rw [HN.out]⟩⟩
   have h12' : ¬(12 : Int) < ps.length:=by omega
   have HYE : Hid (askedErr l t ps = if nn > 60 then 4 else 0):=Lib.hid (by
    unfold askedErr
    rw [HALL.out,HWB.out,HTH.out,HNN.out,decide_eq_true h12]
    rfl)
   by_cases h60 : (60 : Int) < nn
   case pos =>
    have HN : Hid (askedErr l t ps = 4):=Lib.hid (by rw [HYE.out,if_pos h60])
    go_wp2_with fail
    refine Calls.mono (HC2.out _ HB2.out bD bC bE M1.out) ?_
    rintro e w2 ⟨rfl,hb2⟩
    have HB3:=Lib.hid (HB2.out.trans (hb2.mono HB2.out.size))
    have HW3:=Lib.hid (HW2.out.below hb2 HW2.out.lt)
    have N1:=Lib.hid (M1.out.next hb2)
    have N2:=Lib.hid (M2.out.next hb2)
    have N3:=Lib.hid (M3.out.next hb2)
    clear hb2 y0 y1 y2 yl
    obtain ⟨x0,x1,x2⟩:=HW3.out.three
    have xl:=HW3.out.lt
    go_wp2_with fail
    exact bodyPost_ret (v:=.tuple #[.pointer none,.int .i64 4]) (by simp [results,Tryz.results43,go_sem]) rfl ⟨HB3.out,.inr ⟨by rw [HN.out]; decide,by rw [HN.out]⟩⟩
   case neg =>
    have HN : Hid (askedErr l t ps = 0):=Lib.hid (by rw [HYE.out,if_neg h60])
    go_wp2_with fail
    refine Calls.mono (HC2.out _ HB2.out bD bC bE M1.out) ?_
    rintro e w2 ⟨rfl,hb2⟩
    have HB3:=Lib.hid (HB2.out.trans (hb2.mono HB2.out.size))
    have HW3:=Lib.hid (HW2.out.below hb2 HW2.out.lt)
    have N1:=Lib.hid (M1.out.next hb2)
    have N2:=Lib.hid (M2.out.next hb2)
    have N3:=Lib.hid (M3.out.next hb2)
    clear hb2 y0 y1 y2 yl
    obtain ⟨x0,x1,x2⟩:=HW3.out.three
    have xl:=HW3.out.lt
    go_wp2_with fail
    refine Calls.mono (HSK.out HN.out _ _ _ _ HB3.out N1.out N2.out N3.out) ?_
    rintro e w4 ⟨hb4,v4,rfl,hsk4⟩
    have HB4:=Lib.hid (HB3.out.trans (hb4.mono HB3.out.size))
    have HS4:=Lib.hid hsk4
    clear hb4 hsk4
    go_wp2_with fail
    exact bodyPost_ret (v:=.tuple #[v4,.int .i64 0]) (by simp [results,Tryz.results43,go_sem]) rfl ⟨HB4.out,.inl ⟨HN.out,v4,rfl,HS4.out⟩⟩
end Go.Proofs.YtjeggkfgdhepaaaGreatDoor

namespace Go.Proofs.YtjeggkfgdhepaaaGreatDoor
open Go.RowKit
open Go.Proofs
open Go.Maps
def isT : Value → Nat | .bool true => 1 | _ => 0
def anyPtr (w : World) (v : Value) : Prop:=∃ b,v = .pointer (some ⟨b,0,none⟩)
set_option maxRecDepth 100000 in
set_option maxHeartbeats 2000000 in
theorem seeker_none (w : World) (bD bC bE n : Nat) (hm : MapAt ofV w bD n []) :
  Calls Tryz.prog 83 #[wVal bD bC bE] w fun e w' => Below w.heap.size w w' ∧ ∃ v,e = .returned v ∧ anyPtr w' v:=by
 have HM:=Lib.hid hm
 have HB0:=Lib.hid ((((Below.refl w.heap.size w).alloc (Nat.le_refl _) (.cells #[.map (some bD),.map (some bC),.map (some bE)] 63)).alloc (by simp) (.map #[] 0)).alloc (by simp; omega) (.cells #[.map (some bD),.map (some bC),.map (some bE),.map (some (w.heap.size + 1)),.bool false] 90))
 have HK0:=Lib.hid (((Blk.new w #[.map (some bD),.map (some bC),.map (some bE)] 63).alloc (.map #[] 0)).alloc (.cells #[.map (some bD),.map (some bC),.map (some bE),.map (some (w.heap.size + 1)),.bool false] 90))
 clear hm
 unfold wVal
 have hmm:=@run_makeMap Tryz.prog
 go_enter Tryz.func83,Tryz.ntmps83
 go_wp2_with fail
 clear hmm
 generalize ((w.alloc (.cells #[.map (some bD),.map (some bC),.map (some bE)] 63)).alloc (.map #[] 0)).alloc (.cells #[.map (some bD),.map (some bC),.map (some bE),.map (some (w.heap.size + 1)),.bool false] 90) = w0 at HB0 HK0 ⊢
 go_loopw [4] (fun mv wr => ∃ m : Bool,mv = .bool m ∧ Hid (Below w.heap.size w wr) ∧ Hid (Blk wr w.heap.size #[.map (some bD),.map (some bC),.map (some bE)] 63)) (fun mv _ => isT mv)
 case atStart => exact ⟨true,rfl,HB0.out,HK0.out⟩
 case round =>
  obtain ⟨m,rfl,HB,HK⟩:=hrel
  obtain ⟨y0,y1,y2⟩:=HK.out.three
  have yl:=HK.out.lt
  cases m
  case false =>
   go_wp2_with fail
   go_ret
   exact ⟨HB.out,_,rfl,_,rfl⟩
  case true =>
   go_wp2_with (at_range; go_must (refine map_range rfl _ 59 111 rfl Tryz.underlying59 rfl (HM.out.next HB.out) ?_))
   intro w1 left1 cnt1 hr1 hl1 hg1 hs1
   have HR1:=Lib.hid hr1
   have HB1 : Hid (Below w.heap.size w w1):=Lib.hid (HB.out.grown hg1 HB.out.size (fun k hk => by cases hk))
   have HK1 : Hid (Blk w1 w.heap.size #[.map (some bD),.map (some bC),.map (some bE)] 63):=Lib.hid ((hg1.block _ HK.out.lt (by simp)).trans HK.out)
   clear hr1 hl1 hg1 hs1 y0 y1 y2 yl
   go_wp2_with fail
   generalize wr.heap.size = r at HR1 ⊢
   go_loopw [21,4] (fun _ mv wr => ∃ left cnt,mv = .bool false ∧ Hid (RangeAt ofV wr bD r n [] left cnt) ∧ Hid (Below w.heap.size w wr) ∧ Hid (Blk wr w.heap.size #[.map (some bD),.map (some bC),.map (some bE)] 63)) (fun _ _ wr => wr.rangeLeft bD r)
   case atStart => exact ⟨left1,cnt1,rfl,HR1.out,HB1.out,HK1.out⟩
   case round =>
    obtain ⟨left,cnt,rfl,HR,HB2,HK2⟩:=hrel
    go_wp2_with (at_next; go_must (refine map_next rfl _ rfl r left cnt rfl HR.out ofV_inj ?_ ?_))
    ·intro hdone
     clear hdone
     go_wp2_with fail
     exact ⟨⟨false,rfl,HB2.out,HK2.out⟩,by simp [isT]⟩
    ·intro s v w5 cnt5 hlk
     rw [lookL_nil] at hlk
     cases hlk
end Go.Proofs.YtjeggkfgdhepaaaGreatDoor

namespace Go.Proofs.YtjeggkfgdhepaaaGreatDoor
open Go.RowKit
open Go.Proofs
structure Rw where
 at_ : Option Addr
 cap : Nat
 pats : List Pt
 deriving Inhabited
def Rw.val (r : Rw) : Value:=.slice r.at_ r.pats.length r.cap
def Rw.In (B : Nat) (w : World) (r : Rw) : Prop:=RowAt B w 4 r.at_ (r.pats.map Pt.cells) ∧ (∀ p ∈ r.pats,p.In B w) ∧ r.pats.length ≤ r.cap ∧ r.cap ≤ 9223372036854775807
theorem Rw.In.keep {B : Nat} {w w' : World} {r : Rw} (h : r.In B w) (hb : Below B w w') : r.In B w':=⟨h.1.keep hb,fun p hp => Pt.In.keep hb _ (h.2.1 p hp),h.2.2⟩
theorem Rw.In.wider {B B' : Nat} {w : World} {r : Rw} (h : r.In B w) (hb : B ≤ B') : r.In B' w:=⟨h.1.wider hb,fun p hp => Pt.In.wider hb _ (h.2.1 p hp),h.2.2⟩
structure RowsIn (B : Nat) (w : World) (A : Option Addr) (rs : List Rw) : Prop where
 row : RowAt B w 1 A (rs.map fun r => [r.val])
 each : ∀ r ∈ rs,r.In B w
 len : rs.length ≤ 1048576
theorem RowsIn.at_ {B : Nat} {w w' : World} {A : Option Addr} {rs : List Rw} (h : RowsIn B w A rs) (hb : Below B w w') (hB : B ≤ w'.heap.size) : RowsIn w'.heap.size w' A rs:=⟨(h.row.keep hb).wider hB,fun r hr => ((h.each r hr).keep hb).wider hB,h.len⟩
theorem RowsIn.arg_at {B : Nat} {w wr : World} {A : Option Addr} {rs : List Rw} {k : Nat} (h : RowsIn B w A rs) (hb : Below B w wr) (hlt : k < rs.length) :
  ∃ r b off,rs[k]? = some r ∧ r ∈ rs ∧ A = some ⟨b,off,none⟩ ∧ b < B ∧ wr.cell? ⟨b,off + k,none⟩ = some r.val:=by
 obtain ⟨r,hr⟩ : ∃ r,rs[k]? = some r:=⟨_,List.getElem?_eq_getElem hlt⟩
 obtain ⟨b,off,rfl,hb',hc⟩:=h.row (by simp; omega)
 have h1:=hc k [r.val] (by simp [hr]) 0 _ rfl
 simp only [Nat.mul_one,Nat.add_zero] at h1
 exact ⟨r,b,off,hr,List.mem_of_getElem? hr,rfl,hb',(hb.cell (p:=⟨b,off + k,none⟩) hb').trans h1⟩
def PatsO (B : Nat) (w : World) (v : Value) (ps : List Pt) : Prop:=∃ A c,v = .slice A ps.length c ∧ w.ownsRow B 28 4 (.slice A ps.length c) ps.length ((ps.map Pt.cells).flatten)
theorem PatsO.nil (B : Nat) (w : World) : PatsO B w (.slice none 0 0) []:=⟨none,0,rfl,World.ownsRow_nil _ _ _ _⟩
def headsTo (rs : List Rw) (k : Nat) : List Pt:=(rs.take k).map fun r => r.pats.headD anyPt
theorem headsTo_succ {rs : List Rw} {k : Nat} {r : Rw} {q : Pt} (h : rs[k]? = some r) (hq : r.pats[0]? = some q) : headsTo rs (k + 1) = headsTo rs k ++ [q]:=by
 unfold headsTo
 rw [List.take_add_one,h]
 cases hr : r.pats with
 | nil => rw [hr] at hq; cases hq
 | cons p l => rw [hr] at hq; simp at hq; subst hq; simp [hr]
theorem headsTo_len {rs : List Rw} {k : Nat} (h : k ≤ rs.length) : (headsTo rs k).length = k:=by
 unfold headsTo
 simp
 omega
def FirstsPost (w : World) (rs : List Rw) (e : Ending) (w' : World) : Prop:=Below w.heap.size w w' ∧ ∃ v,e = .returned v ∧ PatsO w.heap.size w' v (headsTo rs rs.length)
set_option maxRecDepth 100000 in
set_option maxHeartbeats 2000000 in
theorem firsts_any (A : Option Addr) (rs : List Rw) (c : Nat) (w : World) (h : RowsIn w.heap.size w A rs) (hne : ∀ r ∈ rs,0 < r.pats.length) :
  Calls Tryz.prog 84 #[.slice A rs.length c] w (FirstsPost w rs):=by
 have HI:=Lib.hid h
 have HNE:=Lib.hid hne
 have hlen:=h.len
 obtain ⟨i0,hi,hz0,hz1,hz2⟩:=info_parts infoPat
 clear h hne
 go_enter Tryz.func84,Tryz.ntmps84
 go_wp2_with fail
 go_loopw [8,3] (fun iv ov wr => ∃ k : Nat,iv = .int .i64 k ∧ k ≤ rs.length ∧ Hid (Below w.heap.size w wr) ∧ Hid (PatsO w.heap.size wr ov (headsTo rs k))) (fun iv _ _ => rs.length - (intOf iv).toNat)
 case atStart => exact ⟨0,rfl,Nat.zero_le _,Lib.hid (Below.refl _ _),Lib.hid (by simpa [headsTo] using PatsO.nil w.heap.size w)⟩
 case round =>
  obtain ⟨k,rfl,hk,HB,HT⟩:=hrel
  obtain ⟨A',c',rfl,hrw⟩:=HT.out
  rw [headsTo_len hk] at hrw ⊢
  have HRW:=Lib.hid hrw
  clear hrw
  by_cases hlt : k < rs.length
  ·obtain ⟨r,b0,off,hr,hmem,rfl,hb,x0⟩:=HI.out.arg_at HB.out hlt
   obtain ⟨ra,rc,rp⟩:=r
   have hri:=HI.out.each _ hmem
   obtain ⟨q,b1,off1,hq,hqm,hra,hb1,z0,z1,z2,z3⟩:=Pt.arg_at (k:=0) hri.1 HB.out (HNE.out _ hmem)
   simp only at hra
   subst hra
   have HSU:=Lib.hid (headsTo_succ hr hq)
   have hs0:=HB.out.size
   have hpos:=HNE.out _ hmem
   simp only [Nat.zero_mul,Nat.add_zero] at z0 z1 z2 z3
   unfold Rw.val at x0
   clear hr hq hri
   go_wp2_with (at_builtin; go_must (refine wpList_append_own_at _ rfl (.tmp 12) (.tmp 16) 26 rfl w.heap.size 28 i0 _ 4 64 Tryz.underlying26 hi hz0 hz1 hz2 rfl (by decide) (.slice A' k c') k (((headsTo rs k).map Pt.cells).flatten) rfl ?hown ⟨wr.heap.size,0,none⟩ 1 1 q.cells rfl rfl ?c1 ?c2 ?c3 ?c4 ?c5 ?_))
   case hown => exact World.ownsRow.alloc HRW.out _
   case c1 => exact fun j u hu => hu
   case c2 => simp [Value.oneCell',Pt.cells]
   case c3 => unfold maxLen; omega
   case c4 => omega
   case c5 => first | omega | (simp; omega)
   intro v' w2 hown hgrow _ hwhere
   obtain ⟨A2,c2,rfl,-⟩:=row_slice hown
   have hbb : Below w.heap.size w w2:=(HB.out.alloc hs0 _).grown hgrow (by simp; omega) (fun i hi => (HRW.out.lt i hi).1)
   have HB2:=Lib.hid hbb
   have HO2:=Lib.hid hown
   clear hown hgrow hwhere hbb x0 z0 z1 z2 z3
   go_wp2_with fail
   refine ⟨⟨k + 1,by go_num,by omega,HB2.out,Lib.hid ⟨A2,c2, ?_, ?_⟩⟩,by simp [intOf]; omega⟩
   ·rw [headsTo_len (by omega)]
   ·rw [headsTo_len (by omega),HSU.out,List.map_append,List.flatten_append]
    have:=HO2.out
    simpa using this
  ·have hk2 : k = rs.length:=by omega
   subst hk2
   go_wp2_with fail
   go_ret
   exact ⟨HB.out,_,rfl,A',c',by rw [headsTo_len (Nat.le_refl _)]; rfl,by rw [headsTo_len (Nat.le_refl _)]; exact HRW.out⟩
end Go.Proofs.YtjeggkfgdhepaaaGreatDoor

namespace Go.Proofs.YtjeggkfgdhepaaaGreatDoor
open Go.RowKit
open Go.Proofs
inductive Ord where
 | done
 | read (k : Nat) (t : Ord)
 | one (k : Nat) (t : Ord)
 | two (k1 : Nat) (t1 : Ord) (k2 : Nat) (t2 : Ord)
 | three (k1 : Nat) (t1 : Ord) (k2 : Nat) (t2 : Ord) (k3 : Nat) (t3 : Ord)
def Ord.size : Ord → Nat
 | .done => 0
 | .read _ t => t.size + 1
 | .one _ t => t.size + 1
 | .two _ t1 _ _ => t1.size + 1
 | .three _ t1 _ _ _ _ => t1.size + 1
section
variable {P : Program} {ops : Array Oper} {Q : Exit → Act → World → Prop} {md : Region.Mode} {S : World → Prop}
def Ord.ok (md : Region.Mode) (ops : Array Oper) : Ord → Array Bool → Bool
 | .done,listed => (Region.ready md ops listed).isEmpty
 | .read k t,listed => (Region.ready md ops listed).contains k && Region.free md ops listed k && t.ok md ops (listed.setIfInBounds k true)
 | .one k t,listed => decide (Region.ready md ops listed = [k]) && t.ok md ops (listed.setIfInBounds k true)
 | .two k1 t1 k2 t2,listed => decide (Region.ready md ops listed = [k1,k2]) && t1.ok md ops (listed.setIfInBounds k1 true) && t2.ok md ops (listed.setIfInBounds k2 true) && decide (t2.size = t1.size)
 | .three k1 t1 k2 t2 k3 t3,listed => decide (Region.ready md ops listed = [k1,k2,k3]) && t1.ok md ops (listed.setIfInBounds k1 true) && t2.ok md ops (listed.setIfInBounds k2 true) && t3.ok md ops (listed.setIfInBounds k3 true) && decide (t2.size = t1.size) && decide (t3.size = t1.size)
def stepAt (P : Program) (ops : Array Oper) (Q : Exit → Act → World → Prop) (k : Nat) (K : Act → World → Prop) (a : Act) (w : World) : Prop:=
 ∀ o,ops[k]? = some o → if Region.wanted o (yielded ops a.tmps) then o.wp P a w K Q ∨ (o.asks P a w ∧ LetsOut Q) else K (a.put o.dst undef) w
def wpOrd (P : Program) (ops : Array Oper) (Q : Exit → Act → World → Prop) (S : World → Prop) : Ord → Act → World → Prop
 | .done,a,w => Q .normal a w
 | .read k t,a,w => ∀ o,ops[k]? = some o → ∃ v,YieldsIf P ops S o v a ∧ wpOrd P ops Q S t (a.put o.dst v) w
 | .one k t,a,w => stepAt P ops Q k (fun a' w' => S w' ∧ wpOrd P ops Q S t a' w') a w
 | .two k1 t1 k2 t2,a,w => stepAt P ops Q k1 (fun a' w' => S w' ∧ wpOrd P ops Q S t1 a' w') a w ∧ stepAt P ops Q k2 (fun a' w' => S w' ∧ wpOrd P ops Q S t2 a' w') a w
 | .three k1 t1 k2 t2 k3 t3,a,w => stepAt P ops Q k1 (fun a' w' => S w' ∧ wpOrd P ops Q S t1 a' w') a w ∧ stepAt P ops Q k2 (fun a' w' => S w' ∧ wpOrd P ops Q S t2 a' w') a w ∧ stepAt P ops Q k3 (fun a' w' => S w' ∧ wpOrd P ops Q S t3 a' w') a w
theorem stepAt_op {k : Nat} {K K' : Act → World → Prop} {a : Act} {w : World} (hk : ∃ o,ops[k]? = some o) (h : stepAt P ops Q k K a w) (hK : ∀ a w,K a w → K' a w) : wpOp P ops Q k K' a w:=by
 obtain ⟨o,ho⟩:=hk
 have hw : wpOp P ops Q k K a w:=by unfold wpOp; simp only [ho]; exact h o ho
 exact wpOp_mono hK hw
theorem wpAnyM_ord (hs : Region.noSelect ops = true) (hQ : ∀ c a d v w,Q (.panic c) (Act.put a d v) w → Q (.panic c) a w) :
  ∀ (t : Ord) (listed : Array Bool) (a : Act) (w : World),Closed md ops listed → S w → t.ok md ops listed = true → wpOrd P ops Q S t a w → wpAnyM P md ops Q S ops.size t.size listed a w
 | .done,listed,a,w,hc,hS,hB,h => ⟨by simpa [Ord.ok] using hB,h⟩
 | .read k t,listed,a,w,hc,hS,hB,h => by
  simp only [Ord.ok,Bool.and_eq_true] at hB
  obtain ⟨⟨hr,hf⟩,hB'⟩:=hB
  have hr' : k ∈ Region.ready md ops listed:=by simpa using hr
  obtain ⟨-,o,ho,-⟩:=mem_ready.1 hr'
  obtain ⟨v,hy,hK⟩:=h o ho
  refine wpAnyM_firstT ho (Region.noSelect_spec hs) (fun c a w => hQ c a _ _ w) (fun j hj hjs => by omega) t.size listed a w hc (Region.free_spec ho hf) hr' hy hS
   (wpAnyM_ord hs hQ t _ _ w (closed_set hc hr') hS hB' hK)
 | .one k t,listed,a,w,hc,hS,hB,h => by
  simp only [Ord.ok,Bool.and_eq_true,decide_eq_true_eq] at hB
  obtain ⟨hr,hB'⟩:=hB
  refine ⟨fun h1 => (by rw [hr] at h1; cases h1),fun i hi => ?_⟩
  have hr':=hi
  obtain ⟨-,o,ho,-⟩:=mem_ready.1 hi
  rw [hr] at hi
  have hik : i = k:=by simpa using hi
  subst hik
  exact stepAt_op ⟨o,ho⟩ h fun a' w' h' => ⟨fun _ => h'.1,wpAnyM_ord hs hQ t _ a' w' (closed_set hc hr') h'.1 hB' h'.2⟩
 | .two k1 t1 k2 t2,listed,a,w,hc,hS,hB,h => by
  simp only [Ord.ok,Bool.and_eq_true,decide_eq_true_eq] at hB
  obtain ⟨⟨⟨hr,hB1⟩,hB2⟩,hz⟩:=hB
  refine ⟨fun h1 => (by rw [hr] at h1; cases h1),fun i hi => ?_⟩
  have hr':=hi
  obtain ⟨-,o,ho,-⟩:=mem_ready.1 hi
  rw [hr] at hi
  simp only [List.mem_cons,List.not_mem_nil,or_false] at hi
  rcases hi with rfl | rfl
  ·exact stepAt_op ⟨o,ho⟩ h.1 fun a' w' h' => ⟨fun _ => h'.1,wpAnyM_ord hs hQ t1 _ a' w' (closed_set hc hr') h'.1 hB1 h'.2⟩
  ·exact stepAt_op ⟨o,ho⟩ h.2 fun a' w' h' => ⟨fun _ => h'.1,hz ▸ wpAnyM_ord hs hQ t2 _ a' w' (closed_set hc hr') h'.1 hB2 h'.2⟩
 | .three k1 t1 k2 t2 k3 t3,listed,a,w,hc,hS,hB,h => by
  simp only [Ord.ok,Bool.and_eq_true,decide_eq_true_eq] at hB
  obtain ⟨⟨⟨⟨⟨hr,hB1⟩,hB2⟩,hB3⟩,hz⟩,hz3⟩:=hB
  refine ⟨fun h1 => (by rw [hr] at h1; cases h1),fun i hi => ?_⟩
  have hr':=hi
  obtain ⟨-,o,ho,-⟩:=mem_ready.1 hi
  rw [hr] at hi
  simp only [List.mem_cons,List.not_mem_nil,or_false] at hi
  rcases hi with rfl | rfl | rfl
  ·exact stepAt_op ⟨o,ho⟩ h.1 fun a' w' h' => ⟨fun _ => h'.1,wpAnyM_ord hs hQ t1 _ a' w' (closed_set hc hr') h'.1 hB1 h'.2⟩
  ·exact stepAt_op ⟨o,ho⟩ h.2.1 fun a' w' h' => ⟨fun _ => h'.1,hz ▸ wpAnyM_ord hs hQ t2 _ a' w' (closed_set hc hr') h'.1 hB2 h'.2⟩
  ·exact stepAt_op ⟨o,ho⟩ h.2.2 fun a' w' h' => ⟨fun _ => h'.1,hz3 ▸ wpAnyM_ord hs hQ t3 _ a' w' (closed_set hc hr') h'.1 hB3 h'.2⟩
theorem region_ord {id : Nat} {a : Act} {w : World} {l : List Oper} (S : World → Prop) (t : Ord) (hmix : P.follows .mixedOrders = true)
  (hB : (Region.noSelect l.toArray && t.ok .any l.toArray (Array.replicate l.toArray.size false) && decide (t.size = l.toArray.size)) = true) (hS : S w.drew)
  (h : wpOrd P l.toArray (NoPanic Q) S t a w.drew) : (Code.region id l.toArray true).wp P Q a w:=by
 refine wp_region_noPanic ?_
 simp only [Bool.and_eq_true,decide_eq_true_eq] at hB
 obtain ⟨⟨hsel,hhead⟩,hlen⟩:=hB
 have hc : Closed .any l.toArray (Array.replicate l.toArray.size false):=fun j oj hj hlj => by
  have hjl:=(Array.getElem?_eq_some_iff.1 hj).1
  have h0 : (Array.replicate l.toArray.size false).getD j true = false:=by
   unfold Array.getD
   rw [dif_pos (by simpa using hjl)]
   simp
  rw [h0] at hlj
  cases hlj
 have H:=wpAnyM_ord (md:=.any) (Q:=NoPanic Q) (S:=S) hsel (fun _ _ _ _ _ h => h) t (Array.replicate l.toArray.size false) a w.drew hc hS hhead h
 rw [hlen] at H
 exact wp_region_any hmix (wpAny_of_M _ _ _ _ H)
theorem wpOrd_read {k : Nat} {t : Ord} {a : Act} {w : World} (o : Oper) (v : Value) (ho : ops[k]? = some o) (hw : Region.wanted o (yielded ops a.tmps) = true) (h : ∀ w,S w → (execOp a.eval o).run P w = .ok (.value v) w)
  (h2 : wpOrd P ops Q S t (a.put o.dst v) w) : wpOrd P ops Q S (.read k t) a w:=fun o' ho' => by
 rw [ho] at ho'
 cases ho'
 exact ⟨v,.inl ⟨hw,h⟩,h2⟩
theorem stepAt_of {k : Nat} {a : Act} {w : World} {K' : Act → World → Prop} (o : Oper) (ho : ops[k]? = some o) (hg : o.guard = none)
  (h : ∀ K : Act → World → Prop,(∀ a w,K' a w → K a w) → o.wp P a w K Q) : stepAt P ops Q k K' a w:=fun o' ho' => by
 rw [ho] at ho'
 cases ho'
 have h1:=h _ (fun a w hS => hS)
 simp only [Region.wanted,hg,if_true]
 exact .inl h1
end
end Go.Proofs.YtjeggkfgdhepaaaGreatDoor

namespace Go.Proofs.YtjeggkfgdhepaaaGreatDoor
open Go.RowKit
open Go.Proofs
set_option maxHeartbeats 1000000 in
theorem nodes_int (v : Value) (t : Ty) (w : World) (hint : (t.dof.toList == [105,110,116]) = true) :
  Calls Tryz.prog 87 #[v,t.val] w fun e w' => e = .returned (.tuple #[.int .i64 1,.bool true]) ∧ Below w.heap.size w w':=by
 have hpair : (t.dof.toList == [112,97,105,114]) = false:=do_other hint (by decide)
 have hdata : (t.dof.toList == [100,97,116,97]) = false:=do_other hint (by decide)
 unfold Ty.val
 have HB0:=Lib.hid ((Below.refl w.heap.size w).alloc (Nat.le_refl _) (.cells #[.string t.dof,.string t.name,.slice t.at_ t.args.length t.cap] 25))
 go_enter Tryz.func87,Tryz.ntmps87
 go_wp2_with fail
 exact bodyPost_ret (v:=.tuple #[.int .i64 1,.bool true]) (by simp [results,Tryz.results87,go_sem]) rfl ⟨rfl,HB0.out⟩
set_option maxHeartbeats 2000000 in
theorem value_int (b : Nat) (t : Ty) (w : World) (hint : (t.dof.toList == [105,110,116]) = true) :
  Calls Tryz.prog 88 #[.pointer (some ⟨b,0,none⟩),t.val] w fun e w' => e = .returned (.agg #[.string t.dof,.string emptyS,.int .i64 0,.slice none 0 0]) ∧ Below w.heap.size w w':=by
 have hpair : (t.dof.toList == [112,97,105,114]) = false:=do_other hint (by decide)
 have hdata : (t.dof.toList == [100,97,116,97]) = false:=do_other hint (by decide)
 have hlist : (t.dof.toList == [108,105,115,116]) = false:=do_other hint (by decide)
 have HC:=Lib.hid (fun W => nodes_int (.pointer (some ⟨b,0,none⟩)) t W hint)
 unfold Ty.val at *
 have HB0:=Lib.hid ((((Below.refl w.heap.size w).alloc (Nat.le_refl _) (.cells #[.pointer (some ⟨b,0,none⟩)] 82)).alloc (by simp) (.cells #[.string t.dof,.string t.name,.slice t.at_ t.args.length t.cap] 25)).alloc (by simp; omega) (.cells #[.string emptyS,.string emptyS,.int .i64 0,.slice none 0 0] 28))
 have K2:=Lib.hid ((Blk.new' (w.alloc (.cells #[.pointer (some ⟨b,0,none⟩)] 82)) #[.string t.dof,.string t.name,.slice t.at_ t.args.length t.cap] 25 (w.heap.size + 1) (by simp)).alloc (.cells #[.string emptyS,.string emptyS,.int .i64 0,.slice none 0 0] 28))
 have K3:=Lib.hid (Blk.new' ((w.alloc (.cells #[.pointer (some ⟨b,0,none⟩)] 82)).alloc (.cells #[.string t.dof,.string t.name,.slice t.at_ t.args.length t.cap] 25)) #[.string emptyS,.string emptyS,.int .i64 0,.slice none 0 0] 28 (w.heap.size + 1 + 1) (by simp))
 go_enter Tryz.func88,Tryz.ntmps88
 go_wp2_with fail
 refine Calls.mono (HC.out _) ?_
 rintro e w1 ⟨rfl,hb1⟩
 have HB1:=Lib.hid (HB0.out.trans (hb1.mono HB0.out.size))
 have K21:=Lib.hid (K2.out.below hb1 K2.out.lt)
 have K31:=Lib.hid (K3.out.below hb1 K3.out.lt)
 clear hb1
 obtain ⟨y0,y1,y2⟩:=K21.out.three
 obtain ⟨z0,z1,z2,z3⟩:=K31.out.four
 have yl:=K21.out.lt
 have zl:=K31.out.lt
 have f0:=K31.out.free 0
 have f1:=K31.out.free 1
 have f2:=K31.out.free 2
 have f3:=K31.out.free 3
 go_wp2_with fail
 have hres:=(((K31.out.set 0 (.string t.dof)).set 1 (.string ⟨#[]⟩)).set 2 (.int .i64 0)).set 3 (.slice none 0 0)
 have hbel : Below w.heap.size w ((((w1.setCell ⟨w.heap.size + 1 + 1,0,none⟩ (.string t.dof)).setCell ⟨w.heap.size + 1 + 1,1,none⟩ (.string ⟨#[]⟩)).setCell ⟨w.heap.size + 1 + 1,2,none⟩ (.int .i64 0)).setCell ⟨w.heap.size + 1 + 1,3,none⟩ (.slice none 0 0)):=(((HB1.out.setCell (by simp; omega) _).setCell (by simp; omega) _).setCell (by simp; omega) _).setCell (by simp; omega) _
 have r0:=hres.cell 0
 have r1:=hres.cell 1
 have r2:=hres.cell 2
 have r3:=hres.cell 3
 clear hres
 generalize (((w1.setCell ⟨w.heap.size + 1 + 1,0,none⟩ (.string t.dof)).setCell ⟨w.heap.size + 1 + 1,1,none⟩ (.string ⟨#[]⟩)).setCell ⟨w.heap.size + 1 + 1,2,none⟩ (.int .i64 0)).setCell ⟨w.heap.size + 1 + 1,3,none⟩ (.slice none 0 0) = w3 at *
 simp only [List.setIfInBounds_toArray,List.set_cons_zero,List.set_cons_succ,List.getElem?_toArray,List.getElem?_cons_zero,List.getElem?_cons_succ] at r0 r1 r2 r3
 exact bodyPost_ret (v:=.agg #[.string t.dof,.string emptyS,.int .i64 0,.slice none 0 0]) (by simp [results,Tryz.results88,go_sem,r0,r1,r2,r3,emptyS]) rfl ⟨rfl,hbel⟩
set_option maxRecDepth 100000 in
set_option maxHeartbeats 1000000 in
theorem seek_nil (v : Value) (A : Option Addr) (c : Nat) (A2 : Option Addr) (m c2 : Nat) (r : Value) (w : World) :
  Calls Tryz.prog 44 #[v,.slice A 0 c,.slice A2 m c2,r] w fun e w' => e = .returned (.tuple #[.slice none 0 0,.bool ((m : Int) == 0)]) ∧ w = w':=by
 obtain ⟨b,hb⟩ : ∃ b,((m : Int) == 0) = b:=⟨_,rfl⟩
 rw [hb]
 cases b
 all_goals
  go_enter Tryz.func44,Tryz.ntmps44
  go_wp2_with fail
 ·exact bodyPost_ret (v:=.tuple #[.slice none 0 0,.bool false]) (by simp [results,Tryz.results44,go_sem]) rfl ⟨rfl,rfl⟩
 ·exact bodyPost_ret (v:=.tuple #[.slice none 0 0,.bool true]) (by simp [results,Tryz.results44,go_sem]) rfl ⟨rfl,rfl⟩
end Go.Proofs.YtjeggkfgdhepaaaGreatDoor

namespace Go.Proofs.YtjeggkfgdhepaaaGreatDoor
open Go.RowKit
open Go.Proofs
section
variable {P : Program} {ops : Array Oper} {Q : Exit → Act → World → Prop} {S : World → Prop} {a : Act} {w : World}
theorem wpOrd_one {k : Nat} {t : Ord} (h : stepAt P ops Q k (fun a' w' => S w' ∧ wpOrd P ops Q S t a' w') a w) : wpOrd P ops Q S (.one k t) a w:=h
theorem wpOrd_two {k1 k2 : Nat} {t1 t2 : Ord} (h1 : stepAt P ops Q k1 (fun a' w' => S w' ∧ wpOrd P ops Q S t1 a' w') a w) (h2 : stepAt P ops Q k2 (fun a' w' => S w' ∧ wpOrd P ops Q S t2 a' w') a w) : wpOrd P ops Q S (.two k1 t1 k2 t2) a w:=⟨h1,h2⟩
theorem wpOrd_done (h : Q .normal a w) : wpOrd P ops Q S .done a w:=h
end
theorem flat4 : ∀ (ps : List Pt) (i : Nat) (x : List Value) (j : Nat) (v : Value),(ps.map Pt.cells)[i]? = some x → x[j]? = some v → ((ps.map Pt.cells).flatten)[i * 4 + j]? = some v
 | [],i,x,j,v,h,_ => by simp at h
 | p :: ps,0,x,j,v,h,hj => by
  simp only [List.map_cons,List.getElem?_cons_zero,Option.some.injEq] at h
  subst h
  have hlt : j < p.cells.length:=(List.getElem?_eq_some_iff.1 hj).1
  simp only [List.map_cons,List.flatten_cons,Nat.zero_mul,Nat.zero_add]
  rw [List.getElem?_append_left hlt]
  exact hj
 | p :: ps,i + 1,x,j,v,h,hj => by
  simp only [List.map_cons,List.getElem?_cons_succ] at h
  have ih:=flat4 ps i x j v h hj
  simp only [List.map_cons,List.flatten_cons]
  rw [List.getElem?_append_right (by simp [Pt.cells]; omega)]
  rw [show (i + 1) * 4 + j - p.cells.length = i * 4 + j by simp [Pt.cells]; omega]
  exact ih
theorem PatsO.row {B : Nat} {w : World} {A : Option Addr} {c : Nat} {ps : List Pt} (h : w.ownsRow B 28 4 (.slice A ps.length c) ps.length ((ps.map Pt.cells).flatten)) : RowAt w.heap.size w 4 A (ps.map Pt.cells):=by
 intro hlen
 rw [List.length_map] at hlen
 have hx : ((ps.map Pt.cells).flatten)[0 * 4 + 0]? = some (.string (ps[0]).dof):=flat4 ps 0 (ps[0]).cells 0 _ (by rw [List.getElem?_map,List.getElem?_eq_getElem hlen]; rfl) rfl
 obtain ⟨g,hg,-,-⟩:=row_cell h _ _ hx
 subst hg
 refine ⟨g,0,rfl,(h.lt g rfl).2,fun i x hi j v hj => ?_⟩
 obtain ⟨g',hg',hc,-⟩:=row_cell h _ _ (flat4 ps i x j v hi hj)
 simp only [Option.some.injEq,Addr.mk.injEq,and_true] at hg'
 subst hg'
 simpa using hc
set_option maxHeartbeats 1000000 in
theorem notWild_any (ps : List Pt) (A : Option Addr) (c : Nat) (w : World) (hl : ps.length ≤ 1099511627776) (hrow : RowAt w.heap.size w 4 A (ps.map Pt.cells)) :
  Calls Tryz.prog 54 #[.slice A ps.length c,.func (.func 85) #[] #[]] w fun e w' => e = .returned (.bool (!ps.all (fun q => wildD q.dof))) ∧ Below w.heap.size w w':=by
 have HR:=Lib.hid hrow
 refine Calls.mono (containsPat 85 (enters_of Tryz.func85 (by kernel_rfl) rfl) #[] ps A c w
   (fun k W => Below w.heap.size w W ∧ (ps.take k).all (fun q => wildD q.dof) = true) (fun k W => Below w.heap.size w W ∧ ps.all (fun q => wildD q.dof) = false) hl
   (fun k W hh => ⟨_,HR.out.keep hh.1⟩) ⟨Below.refl _ _,rfl⟩
   (fun k W q hq ⟨hb,hw⟩ => by
    have HB2:=Lib.hid ((Below.refl W.heap.size W).alloc (Nat.le_refl _) (.cells #[.string q.dof,.string q.name,.int .i64 q.num,.slice q.at_ q.args.length q.cap] 28))
    have HCC:=Lib.hid (fun W => isWild_any q W)
    have hcl : Calls Tryz.prog 85 (#[q.val] ++ #[]) W fun e W' => e = .returned (.bool (!wildD q.dof)) ∧ Below W.heap.size W W':=by
     clear hb hw
     unfold Pt.val at *
     show Calls _ _ #[_] _ _
     go_enter Tryz.func85,Tryz.ntmps85
     go_wp2_with fail
     refine Calls.mono (HCC.out _) ?_
     rintro e w1 ⟨rfl,hb1⟩
     have HB3:=Lib.hid (HB2.out.trans (hb1.mono HB2.out.size))
     clear hb1
     go_wp2_with fail
     go_ret
     exact ⟨rfl,HB3.out⟩
    refine Calls.mono hcl ?_
    rintro e W' ⟨rfl,hb2⟩
    have hb3:=hb.trans (hb2.mono hb.size)
    cases hr : wildD q.dof
    ·exact .inl ⟨rfl,hb3,all_no hq hr⟩
    ·exact .inr ⟨rfl,hb3,all_take_succ hq hw hr⟩)) ?_
 rintro e w2 (⟨i,hi,rfl,hb2,hno⟩ | ⟨rfl,hb2,hyes⟩)
 ·exact ⟨by rw [hno]; rfl,hb2⟩
 ·rw [List.take_length] at hyes
  exact ⟨by rw [hyes]; rfl,hb2⟩
def wildRow (r : Rw) : Prop:=∃ q,r.pats = [q] ∧ wildD q.dof = true ∧ r.cap = 1
def P4 (b1 off1 : Nat) (q : Pt) (W : World) : Prop:=W.cell? ⟨b1,off1,none⟩ = some (.string q.dof) ∧ W.cell? ⟨b1,off1 + 1,none⟩ = some (.string q.name) ∧ W.cell? ⟨b1,off1 + 2,none⟩ = some (.int .i64 q.num) ∧ W.cell? ⟨b1,off1 + 3,none⟩ = some (.slice q.at_ q.args.length q.cap)
theorem heads_wild {rs : List Rw} {p : Pt} (h : ∀ r ∈ rs,wildRow r) (hp : wildD p.dof = true) : (headsTo rs rs.length ++ [p]).all (fun q => wildD q.dof) = true:=by
 rw [List.all_eq_true]
 intro q hq
 unfold headsTo at hq
 rw [List.take_length,List.mem_append,List.mem_map] at hq
 rcases hq with ⟨r,hr,rfl⟩ | hq
 ·obtain ⟨x,hx,hw,-⟩:=h r hr
  rw [hx]
  exact hw
 ·simp only [List.mem_cons,List.not_mem_nil,or_false] at hq
  subst hq
  exact hp
theorem infoRow : (Tryz.prog.info? 26).map (fun i => (i.zero,i.size,i.bytes)) = some (some (.slice none 0 0),1,24):=by kernel_rfl
def OwnN (B : Nat) (w : World) (v : Value) (k : Nat) : Prop:=∃ A c xs,v = .slice A k c ∧ w.ownsRow B 26 1 (.slice A k c) k xs
theorem row_new (w : World) (v : Value) (d : ByteArray) : (w.alloc (.cells #[.string d,.string emptyS,.int .i64 0,.slice none 0 0] 28)).ownsRow w.heap.size 28 4 (.slice (some ⟨w.heap.size,0,none⟩) 1 1) 1 [.string d,.string emptyS,.int .i64 0,.slice none 0 0]:=
 ⟨rfl,.inr ⟨_,1,_,rfl,Nat.le_refl _,heap_alloc_new w _,Nat.le_refl _,by decide,rfl,rfl⟩⟩
def FlatPost (w : World) (ok : Bool) (e : Ending) (w' : World) : Prop:=Below w.heap.size w w' ∧ ∃ v,e = .returned (.tuple #[v,.bool ok])
set_option maxRecDepth 100000 in
set_option maxHeartbeats 4000000 in
theorem seek_flat (b : Nat) (bt ot : Nat) (t : Ty) (A2 : Option Addr) (rs : List Rw) (c2 : Nat) (b1 off1 : Nat) (p : Pt) (w : World) (hint : (t.dof.toList == [105,110,116]) = true)
  (htr : RowAt w.heap.size w 3 (some ⟨bt,ot,none⟩) ([t].map Ty.cells)) (hrs : RowsIn w.heap.size w A2 rs) (hwr : ∀ r ∈ rs,wildRow r) (hrow : RowAt w.heap.size w 4 (some ⟨b1,off1,none⟩) ([p].map Pt.cells)) (hwp : wildD p.dof = true) :
  Calls Tryz.prog 44 #[.pointer (some ⟨b,0,none⟩),.slice (some ⟨bt,ot,none⟩) 1 1,.slice A2 rs.length c2,.slice (some ⟨b1,off1,none⟩) 1 1] w (FlatPost w ((rs.length : Int) == 0)):=by
 have HRS:=Lib.hid hrs
 have HWR:=Lib.hid hwr
 obtain ⟨t',bt',ot',ht,-,hat,hbt,y0,y1,y2⟩:=Ty.arg_at (k:=0) htr (Below.refl _ _) (by simp)
 obtain ⟨p',b1',off1',hp,-,hap,hb1,z0,z1,z2,z3⟩:=Pt.arg_at (k:=0) hrow (Below.refl _ _) (by simp)
 simp only [List.getElem?_cons_zero,Option.some.injEq] at ht hp
 simp only [Option.some.injEq,Addr.mk.injEq,and_true] at hat hap
 subst ht
 subst hp
 obtain ⟨rfl,rfl⟩:=hat
 obtain ⟨rfl,rfl⟩:=hap
 simp only [Nat.zero_mul,Nat.add_zero] at y0 y1 y2 z0 z1 z2 z3
 have HCF:=Lib.hid (fun (W : World) (hW : Below w.heap.size w W) => firsts_any A2 rs c2 W (hrs.at_ hW hW.size) (fun r hr => by obtain ⟨q,hq,-⟩:=hwr r hr; rw [hq]; simp))
 have HCN:=Lib.hid (fun W => nodes_int (.pointer (some ⟨b,0,none⟩)) t W hint)
 have HCV:=Lib.hid (fun W => value_int b t W hint)
 have HBT:=Lib.hid ((Below.refl w.heap.size w).alloc (Nat.le_refl _) (.cells #[.string t.dof,.string t.name,.slice t.at_ t.args.length t.cap] 25))
 have HKT:=Lib.hid (Blk.new w #[.string t.dof,.string t.name,.slice t.at_ t.args.length t.cap] 25)
 have HZ:=Lib.hid (fun W (hW : Below w.heap.size w W) => (⟨(hW.cell (p:=⟨b1,off1,none⟩) hb1).trans z0,(hW.cell (p:=⟨b1,off1 + 1,none⟩) hb1).trans z1,(hW.cell (p:=⟨b1,off1 + 2,none⟩) hb1).trans z2,(hW.cell (p:=⟨b1,off1 + 3,none⟩) hb1).trans z3⟩ : P4 b1 off1 p W))
 clear htr hrs hwr hrow z0 z1 z2 z3
 obtain ⟨i0,hi,hz0,hz1,hz2⟩:=info_parts infoPat
 have hlen:=HRS.out.len
 go_enter Tryz.func44,Tryz.ntmps44
 go_upto_region 4 with (fail)
 go_cut [11] (fun cv wx => ∃ (Ac : Option Addr) (cc : Nat),cv = .slice Ac (headsTo rs rs.length ++ [p]).length cc ∧ Hid (RowAt wx.heap.size wx 4 Ac ((headsTo rs rs.length ++ [p]).map Pt.cells)) ∧ Hid (Below w.heap.size w wx) ∧ Hid (Blk wx w.heap.size #[.string t.dof,.string t.name,.slice t.at_ t.args.length t.cap] 25))
 case first =>
  generalize w.alloc (.cells #[.string t.dof,.string t.name,.slice t.at_ t.args.length t.cap] 25) = w1 at HBT HKT ⊢
  refine region_ord (P4 b1 off1 p) (.read 0 (.read 2 (.read 3 (.read 4 (.two 1 (.one 5 (.one 6 (.one 7 .done))) 5 (.one 1 (.one 6 (.one 7 .done)))))))) (by kernel_rfl) (by kernel_rfl) (HZ.out _ HBT.out.drew) ?_
  iterate 4
   refine wpOrd_read _ ?_ rfl (by rfl) (fun W hW => ?_) ?_
   rotate_left
   ·unfold P4 at hW
    go_simp
    try with_reducible rfl
   simp only [Act.put,List.setIfInBounds_toArray,List.set_cons_zero,List.set_cons_succ]
  refine wpOrd_two ?_ ?_
  ·refine stepAt_of _ rfl rfl (fun K hK => ?_)
   go_simp
   refine Calls.mono (HCF.out _ HBT.out.drew) ?_
   rintro e w3 ⟨hb3,v3,rfl,A3,c3,rfl,hown3⟩
   have HB3:=Lib.hid (HBT.out.drew.trans (hb3.mono HBT.out.drew.size))
   have HK3:=Lib.hid ((HKT.out.drewN 1).below hb3 HKT.out.lt)
   have HBW:=Lib.hid (HB3.out.alloc HB3.out.size (.cells #[.string p.dof,.string p.name,.int .i64 p.num,.slice p.at_ p.args.length p.cap] 28))
   have HKW:=Lib.hid (HK3.out.alloc (.cells #[.string p.dof,.string p.name,.int .i64 p.num,.slice p.at_ p.args.length p.cap] 28))
   have HBB:=Lib.hid (show w.heap.size < w1.drew.heap.size from HKT.out.lt)
   have HOWN:=Lib.hid (World.ownsRow.alloc hown3 (.cells #[.string p.dof,.string p.name,.int .i64 p.num,.slice p.at_ p.args.length p.cap] 28))
   have HNEW : Hid (∀ (j : Nat) (u : Value),p.cells[j]? = some u → (w3.alloc (.cells #[.string p.dof,.string p.name,.int .i64 p.num,.slice p.at_ p.args.length p.cap] 28)).cell? ((⟨w3.heap.size,0,none⟩ : Addr).add j) = some u):=Lib.hid (World.news_of_block (heap_alloc_new w3 _))
   have HBASE : Hid (w1.drew.heap.size ≤ (w3.alloc (.cells #[.string p.dof,.string p.name,.int .i64 p.num,.slice p.at_ p.args.length p.cap] 28)).heap.size):=Lib.hid (by have:=hb3.size; simp at this ⊢; omega)
   refine hK _ _ ⟨HZ.out _ HB3.out, ?_⟩
   clear hK K hb3 hown3
   refine wpOrd_one ?_
   refine stepAt_of _ rfl rfl (fun K hK => ?_)
   go_simp
   refine hK _ _ ⟨HZ.out _ HBW.out, ?_⟩
   clear hK K
   refine wpOrd_one ?_
   refine stepAt_of _ rfl rfl (fun K hK => ?_)
   refine wp_append_lies _ (.tmp 42) (.tmp 46) 26 rfl w1.drew.heap.size 28 i0 _ 4 64 Tryz.underlying26 hi hz0 hz1 hz2 rfl (by decide) (.slice A3 (headsTo rs rs.length).length c3) (headsTo rs rs.length).length (((headsTo rs rs.length).map Pt.cells).flatten) (by simp [Act.eval,Act.put]) HOWN.out ⟨w3.heap.size,0,none⟩ 1 1 p.cells (by simp [Act.eval,Act.put]) rfl HNEW.out (by simp [Value.oneCell',Pt.cells]) (by omega) (by rw [headsTo_len (Nat.le_refl _)]; unfold maxLen; omega) (by rw [headsTo_len (Nat.le_refl _)]; omega) HBASE.out _ rfl ?_
   intro g2 c4 w6 hown hgrow hat hlt2
   have hbw6 : Below w.heap.size w w6:=HBW.out.grown hgrow HBW.out.size (fun i hi => by have:=(HOWN.out.lt i hi).1; have:=HBB.out; omega)
   have HB6:=Lib.hid hbw6
   have HO6:=Lib.hid hown
   have HK6:=Lib.hid ((hgrow.block w.heap.size HKW.out.lt (fun e => by have:=(HOWN.out.lt _ e.symm).1; have:=HBB.out; omega)).trans HKW.out)
   refine hK _ _ ⟨HZ.out _ HB6.out, ?_⟩
   clear hK K hown hgrow hat hbw6
   refine wpOrd_one ?_
   refine stepAt_of _ rfl rfl (fun K hK => ?_)
   go_simp
   refine hK _ _ ⟨HZ.out _ HB6.out, ?_⟩
   clear hK K
   refine wpOrd_done ?_
   refine NoPanic.normal ?_
   go_wp2_with fail
   go_meet
   exact ⟨some ⟨g2,0,none⟩,c4,by simp,PatsO.row (by have:=HO6.out; simpa using this),HB6.out,HK6.out⟩
  ·refine stepAt_of _ rfl rfl (fun K hK => ?_)
   go_simp
   have HKP:=Lib.hid (show Blk ((w1.alloc (.cells #[.string p.dof,.string p.name,.int .i64 p.num,.slice p.at_ p.args.length p.cap] 28)).drew) w1.heap.size #[.string p.dof,.string p.name,.int .i64 p.num,.slice p.at_ p.args.length p.cap] 28 from Blk.new w1 _ _)
   have HB4:=Lib.hid (show Below w.heap.size w ((w1.alloc (.cells #[.string p.dof,.string p.name,.int .i64 p.num,.slice p.at_ p.args.length p.cap] 28)).drew) from (HBT.out.alloc HBT.out.size _).drew)
   have HK4:=Lib.hid (show Blk ((w1.alloc (.cells #[.string p.dof,.string p.name,.int .i64 p.num,.slice p.at_ p.args.length p.cap] 28)).drew) w.heap.size _ _ from HKT.out.alloc _)
   refine hK _ _ ⟨HZ.out _ HB4.out, ?_⟩
   clear hK K
   generalize (w1.alloc (.cells #[.string p.dof,.string p.name,.int .i64 p.num,.slice p.at_ p.args.length p.cap] 28)).drew = w4 at HKP HB4 HK4 ⊢
   refine wpOrd_one ?_
   refine stepAt_of _ rfl rfl (fun K hK => ?_)
   go_simp
   refine Calls.mono (HCF.out _ HB4.out) ?_
   rintro e w3 ⟨hb3,v3,rfl,A3,c3,rfl,hown3⟩
   have HBW:=Lib.hid (HB4.out.trans (hb3.mono HB4.out.size))
   have HKW:=Lib.hid (HK4.out.below hb3 HK4.out.lt)
   have HBB:=Lib.hid (show w.heap.size < w4.heap.size from HK4.out.lt)
   have HOWN:=Lib.hid hown3
   have HNEW : Hid (∀ (j : Nat) (u : Value),p.cells[j]? = some u → w3.cell? ((⟨w1.heap.size,0,none⟩ : Addr).add j) = some u):=Lib.hid (World.news_of_block (HKP.out.below hb3 HKP.out.lt))
   have HBASE : Hid (w4.heap.size ≤ w3.heap.size):=Lib.hid hb3.size
   refine hK _ _ ⟨HZ.out _ HBW.out, ?_⟩
   clear hK K hb3 hown3
   refine wpOrd_one ?_
   refine stepAt_of _ rfl rfl (fun K hK => ?_)
   refine wp_append_lies _ (.tmp 42) (.tmp 46) 26 rfl w4.heap.size 28 i0 _ 4 64 Tryz.underlying26 hi hz0 hz1 hz2 rfl (by decide) (.slice A3 (headsTo rs rs.length).length c3) (headsTo rs rs.length).length (((headsTo rs rs.length).map Pt.cells).flatten) (by simp [Act.eval,Act.put]) HOWN.out ⟨w1.heap.size,0,none⟩ 1 1 p.cells (by simp [Act.eval,Act.put]) rfl HNEW.out (by simp [Value.oneCell',Pt.cells]) (by omega) (by rw [headsTo_len (Nat.le_refl _)]; unfold maxLen; omega) (by rw [headsTo_len (Nat.le_refl _)]; omega) HBASE.out _ rfl ?_
   intro g2 c4 w6 hown hgrow hat hlt2
   have hbw6 : Below w.heap.size w w6:=HBW.out.grown hgrow HBW.out.size (fun i hi => by have:=(HOWN.out.lt i hi).1; have:=HBB.out; omega)
   have HB6:=Lib.hid hbw6
   have HO6:=Lib.hid hown
   have HK6:=Lib.hid ((hgrow.block w.heap.size HKW.out.lt (fun e => by have:=(HOWN.out.lt _ e.symm).1; have:=HBB.out; omega)).trans HKW.out)
   refine hK _ _ ⟨HZ.out _ HB6.out, ?_⟩
   clear hK K hown hgrow hat hbw6
   refine wpOrd_one ?_
   refine stepAt_of _ rfl rfl (fun K hK => ?_)
   go_simp
   refine hK _ _ ⟨HZ.out _ HB6.out, ?_⟩
   clear hK K
   refine wpOrd_done ?_
   refine NoPanic.normal ?_
   go_wp2_with fail
   go_meet
   exact ⟨some ⟨g2,0,none⟩,c4,by simp,PatsO.row (by have:=HO6.out; simpa using this),HB6.out,HK6.out⟩
 case rest =>
  obtain ⟨Ac,cc,rfl,HCR,HCB,HCK⟩:=hcut
  have HNW:=Lib.hid (notWild_any (headsTo rs rs.length ++ [p]) Ac cc wc (by simp [headsTo_len (Nat.le_refl _)]; omega) HCR.out)
  rw [heads_wild HWR.out hwp] at HNW
  generalize (headsTo rs rs.length ++ [p]).length = nl at HNW ⊢
  obtain ⟨i1,hj,hw0,hw1,hw2⟩:=info_parts infoRow
  clear y0 y1 y2
  unfold Ty.val at *
  go_wp2_with fail
  refine Calls.mono HNW.out ?_
  rintro e w2 ⟨rfl,hb2⟩
  have HB2:=Lib.hid (HCB.out.trans (hb2.mono HCB.out.size))
  have HK2:=Lib.hid (HCK.out.below hb2 HCK.out.lt)
  clear hb2
  obtain ⟨y0,y1,y2⟩:=HK2.out.three
  have yl:=HK2.out.lt
  go_wp2_with fail
  refine Calls.mono (HCN.out _) ?_
  rintro e w3 ⟨rfl,hb3⟩
  have HB3:=Lib.hid (HB2.out.trans (hb3.mono HB2.out.size))
  have HK3:=Lib.hid (HK2.out.below hb3 HK2.out.lt)
  clear hb3 y0 y1 y2 yl
  go_wp2_with fail
  go_loopw [61,14] (fun iv ov wr => ∃ k : Nat,iv = .int .i64 k ∧ k ≤ rs.length ∧ Hid (Below w.heap.size w wr) ∧ Hid (Blk wr w.heap.size #[.string t.dof,.string t.name,.slice t.at_ t.args.length t.cap] 25) ∧ Hid (OwnN (w.heap.size + 1) wr ov k)) (fun iv _ _ => rs.length - (intOf iv).toNat)
  case atStart => exact ⟨0,rfl,Nat.zero_le _,HB3.out,HK3.out,Lib.hid ⟨none,0,[],rfl,World.ownsRow_nil _ _ _ _⟩⟩
  case round =>
   obtain ⟨k,rfl,hk,HB,HK,HO⟩:=hrel
   obtain ⟨A',c',xs,rfl,hown⟩:=HO.out
   have HOWN:=Lib.hid hown
   clear hown
   by_cases hlt : k < rs.length
   ·obtain ⟨r,b0,off,hr,hmem,rfl,hb,x0⟩:=HRS.out.arg_at HB.out hlt
    obtain ⟨q,hq,-,hcap⟩:=HWR.out _ hmem
    have hri:=HRS.out.each _ hmem
    obtain ⟨ra,rc,rp⟩:=r
    simp only at hq hcap
    subst hq
    subst hcap
    obtain ⟨q',b2,off2,-,-,hra,hb2,-⟩:=Pt.arg_at (k:=0) hri.1 HB.out (by simp)
    simp only at hra
    subst hra
    unfold Rw.val at x0
    simp only [List.length_cons,List.length_nil] at x0
    have hs0:=HB.out.size
    clear hr hri
    go_wp2_with (at_builtin; go_must (refine wpList_append_own_at _ rfl (.tmp 65) (.tmp 68) 80 rfl (w.heap.size + 1) 26 i1 _ 1 24 Tryz.underlying80 hj hw0 hw1 hw2 rfl (by decide) (.slice A' k c') k xs rfl ?hown ⟨wr.heap.size,0,none⟩ 1 1 [.slice (some ⟨b2,off2,none⟩) 0 0] rfl rfl ?c1 ?c2 ?c3 ?c4 ?c5 ?_))
    case hown => exact World.ownsRow.alloc HOWN.out _
    case c1 => exact World.news_of_block (heap_alloc_new wr _)
    case c2 => simp [Value.oneCell']
    case c3 => unfold maxLen; omega
    case c4 => omega
    case c5 => first | omega | (simp; omega) | (have:=HK.out.lt; simp; omega)
    intro v' w5 hown hgrow _ _
    obtain ⟨A5,c5,rfl,-⟩:=row_slice hown
    have hb5 : Below w.heap.size w w5:=(HB.out.alloc hs0 _).grown hgrow (by simp; omega) (fun i hi => by have:=(HOWN.out.lt i hi).1; omega)
    have hk5 : Blk w5 w.heap.size _ _:=(hgrow.block _ (by have:=HK.out.lt; simp; omega) (fun e => by have:=(HOWN.out.lt _ e.symm).1; omega)).trans (HK.out.alloc _)
    have HB5:=Lib.hid hb5
    have HK5:=Lib.hid hk5
    have HO5:=Lib.hid hown
    clear hown hgrow hb5 hk5 x0
    go_wp2_with fail
    exact ⟨⟨k + 1,by go_num,by omega,HB5.out,HK5.out,Lib.hid ⟨A5,c5,_,rfl,HO5.out⟩⟩,by simp [intOf]; omega⟩
   ·have hk2 : k = rs.length:=by omega
    subst hk2
    obtain ⟨y0,y1,y2⟩:=HK.out.three
    have yl:=HK.out.lt
    have HN:=Lib.hid (fun W => seek_nil (.pointer (some ⟨b,0,none⟩)) (some ⟨bt,ot,none⟩) 0 A' rs.length c' (.slice (some ⟨b1,off1,none⟩) 0 0) W)
    obtain ⟨ok,hok⟩ : ∃ x,((rs.length : Int) == 0) = x:=⟨_,rfl⟩
    rw [hok] at HN
    have HOK:=Lib.hid hok
    clear hok
    go_wp2_with fail
    refine region_mix (fun _ => True) [(0,true),(1,true),(2,true),(3,true),(4,true),(5,true),(6,false),(7,true),(8,true),(9,true),(10,false),(11,false)] 11 (by kernel_rfl) (by kernel_rfl) trivial ?_
    simp only [pickM,List.filterMap_cons,List.getElem?_cons_zero,List.getElem?_cons_succ,List.filterMap_nil,Option.map_some]
    repeat
     refine wpMix_read ?_ (by rfl) (fun W hW => ?_) ?_
     rotate_left
     ·go_simp
      try with_reducible rfl
     simp only [Act.put,List.setIfInBounds_toArray,List.set_cons_zero,List.set_cons_succ]
    refine wpMix_step rfl (fun K hK => ?_)
    go_simp
    refine Calls.mono (HN.out _) ?_
    rintro e w7 ⟨rfl,rfl⟩
    refine hK _ _ (fun _ => trivial) ?_
    clear hK K
    repeat
     refine wpMix_read ?_ (by rfl) (fun W hW => ?_) ?_
     rotate_left
     ·go_simp
      try with_reducible rfl
     simp only [Act.put,List.setIfInBounds_toArray,List.set_cons_zero,List.set_cons_succ]
    iterate 2
     refine wpMix_step rfl (fun K hK => ?_)
     go_simp
     refine hK _ _ (fun _ => trivial) ?_
     clear hK K
    refine wpMix_nil ?_
    refine NoPanic.normal ?_
    cases ok
    case false =>
     go_wp2_with fail
     exact bodyPost_ret (v:=.tuple #[.slice none 0 0,.bool false]) (by simp [results,Tryz.results44,go_sem]) rfl ⟨HB.out.drew,_,by rw [HOK.out]⟩
    case true =>
     go_wp2_with fail
     refine Calls.mono (HCV.out _) ?_
     rintro e w8 ⟨rfl,hb8⟩
     have HB8:=Lib.hid (HB.out.drew.trans (hb8.mono HB.out.drew.size))
     have HROW:=Lib.hid (row_new w8 (.agg #[.string t.dof,.string emptyS,.int .i64 0,.slice none 0 0]) t.dof)
     have HB9:=Lib.hid (HB8.out.alloc HB8.out.size (.cells #[.string t.dof,.string emptyS,.int .i64 0,.slice none 0 0] 28))
     clear hb8 y0 y1 y2 yl
     go_wp2_with (at_builtin; go_must (refine wpList_append_own_none rfl (.tmp 86) (.tmp 87) 26 rfl w8.heap.size 28 i0 4 Tryz.underlying26 hi (.slice (some ⟨w8.heap.size,0,none⟩) 1 1) 1 [.string t.dof,.string emptyS,.int .i64 0,.slice none 0 0] rfl HROW.out rfl ?_))
     exact bodyPost_ret (v:=.tuple #[.slice (some ⟨w8.heap.size,0,none⟩) 1 1,.bool true]) (by simp [results,Tryz.results44,go_sem]) rfl ⟨HB9.out,_,by rw [HOK.out]⟩
end Go.Proofs.YtjeggkfgdhepaaaGreatDoor

namespace Go.Proofs.YtjeggkfgdhepaaaGreatDoor
open Go.RowKit
open Go.Proofs
theorem own_ne {B : Nat} {w : World} {v : Value} {n size : Nat} {xs : List Value} {e T : TypeId} {b : Nat} {cs : Array Value} (h : w.ownsRow B e size v n xs) (hb : Blk w b cs T) (hne : T ≠ e) : v.ownBlock ≠ some b:=by
 rcases h.2 with ⟨rfl,-⟩ | ⟨g,cap,cur,rfl,-,hg,-⟩
 ·intro h; cases h
 ·intro he
  simp only [Value.ownBlock,Option.some.injEq] at he
  subst he
  unfold Blk at hb
  rw [hg] at hb
  simp only [Option.some.injEq,Obj.cells.injEq] at hb
  exact hne hb.2.1.symm
def oneRow (w : World) (l : List Pt) (i : Nat) (r : Rw) : Prop:=∃ q b,l[i]? = some q ∧ r = ⟨some ⟨b,0,none⟩,1,[q]⟩ ∧ Blk w b #[.string q.dof,.string q.name,.int .i64 q.num,.slice q.at_ q.args.length q.cap] 28
def RowsO (B : Nat) (w : World) (v : Value) (l : List Pt) (k : Nat) : Prop:=
 ∃ (rs : List Rw) (A : Option Addr) (c : Nat),rs.length = k ∧ v = .slice A k c ∧ w.ownsRow B 26 1 (.slice A k c) k (rs.map Rw.val) ∧ ∀ i r,rs[i]? = some r → oneRow w l i r
set_option maxRecDepth 100000 in
set_option maxHeartbeats 4000000 in
theorem rows_any (A : Option Addr) (l : List Pt) (c : Nat) (w : World) (hl : l.length ≤ 1048576) (hrow : RowAt w.heap.size w 4 A (l.map Pt.cells)) (hall : ∀ q ∈ l,q.In w.heap.size w) :
  Calls Tryz.prog 45 #[.slice A l.length c] w fun e w' => Below w.heap.size w w' ∧ ∃ v,e = .returned v ∧ RowsO w.heap.size w' v l l.length:=by
 have HR:=Lib.hid hrow
 have HA:=Lib.hid hall
 obtain ⟨i1,hj,hw0,hw1,hw2⟩:=info_parts infoRow
 clear hrow hall
 go_enter Tryz.func45,Tryz.ntmps45
 go_wp2_with fail
 go_loopw [8,3] (fun iv ov wr => ∃ k : Nat,iv = .int .i64 k ∧ k ≤ l.length ∧ Hid (Below w.heap.size w wr) ∧ Hid (RowsO w.heap.size wr ov l k)) (fun iv _ _ => l.length - (intOf iv).toNat)
 case atStart => exact ⟨0,rfl,Nat.zero_le _,Lib.hid (Below.refl _ _),Lib.hid ⟨[],none,0,rfl,rfl,World.ownsRow_nil _ _ _ _,fun i r h => by simp at h⟩⟩
 case round =>
  obtain ⟨k,rfl,hk,HB,HO⟩:=hrel
  obtain ⟨rs,A',c',hrl,rfl,hown,hone⟩:=HO.out
  have HOWN:=Lib.hid hown
  have HONE:=Lib.hid hone
  have HRL:=Lib.hid hrl
  clear hown hone hrl
  by_cases hlt : k < l.length
  ·obtain ⟨q,b0,off,hq,hmem,rfl,hb,x0,x1,x2,x3⟩:=Pt.arg_at HR.out HB.out hlt
   have HQ:=Lib.hid hq
   have hs0:=HB.out.size
   have HQI:=Lib.hid (HA.out q hmem)
   clear hq
   go_wp2_with (at_builtin; go_must (refine wpList_append_own_at _ rfl (.tmp 12) (.tmp 15) 80 rfl w.heap.size 26 i1 _ 1 24 Tryz.underlying80 hj hw0 hw1 hw2 rfl (by decide) (.slice A' k c') k (rs.map Rw.val) rfl ?hown ⟨wr.heap.size + 1 + 1,0,none⟩ 1 1 [.slice (some ⟨wr.heap.size + 1,0,none⟩) 1 1] rfl rfl ?c1 ?c2 ?c3 ?c4 ?c5 ?_))
   case hown => exact ((HOWN.out.alloc _).alloc _).alloc _
   case c1 => exact cell_one_at _ _ _ _ (by simp)
   case c2 => simp [Value.oneCell']
   case c3 => unfold maxLen; omega
   case c4 => omega
   case c5 => first | omega | (simp; omega)
   intro v' w5 hown hgrow _ _
   obtain ⟨A5,c5,rfl,-⟩:=row_slice hown
   have hkeep : ∀ b cs,Blk (((wr.alloc (.cells #[.string q.dof,.string q.name,.int .i64 q.num,.slice q.at_ q.args.length q.cap] 28)).alloc (.cells #[.string q.dof,.string q.name,.int .i64 q.num,.slice q.at_ q.args.length q.cap] 28)).alloc (.cells #[.slice (some ⟨wr.heap.size + 1,0,none⟩) 1 1] 26)) b cs 28 → Blk w5 b cs 28:=fun b cs hb => (hgrow.block b hb.lt (own_ne (((HOWN.out.alloc _).alloc _).alloc _) hb (by decide)).symm).trans hb
   have hb5 : Below w.heap.size w w5:=(((HB.out.alloc hs0 _).alloc (by simp; omega) _).alloc (by simp; omega) _).grown hgrow (by simp; omega) (fun i hi => (HOWN.out.lt i hi).1)
   have hnew:=hkeep (wr.heap.size + 1) _ ((Blk.new' (wr.alloc (.cells #[.string q.dof,.string q.name,.int .i64 q.num,.slice q.at_ q.args.length q.cap] 28)) _ _ _ (by simp)).alloc _)
   have HB5:=Lib.hid hb5
   have HO5:=Lib.hid hown
   have HALL : Hid (∀ i r,(rs ++ [⟨some ⟨wr.heap.size + 1,0,none⟩,1,[q]⟩] : List Rw)[i]? = some r → oneRow w5 l i r):=Lib.hid (by
    intro i r hi
    by_cases hlt3 : i < rs.length
    ·rw [List.getElem?_append_left hlt3] at hi
     obtain ⟨q',b',h1,h2,h3⟩:=HONE.out i r hi
     exact ⟨q',b',h1,h2,hkeep _ _ (((h3.alloc _).alloc _).alloc _)⟩
    ·rw [List.getElem?_append_right (by omega)] at hi
     have hi0 : i - rs.length = 0:=by
      have:=(List.getElem?_eq_some_iff.1 hi).1
      simp at this
      omega
     rw [hi0] at hi
     simp only [List.getElem?_cons_zero,Option.some.injEq] at hi
     have hik : i = k:=by have:=HRL.out; omega
     subst hi
     subst hik
     exact ⟨q,_,HQ.out,rfl,hnew⟩)
   have HRL5:=Lib.hid (show (rs ++ [⟨some ⟨wr.heap.size + 1,0,none⟩,1,[q]⟩] : List Rw).length = k + 1 by have:=HRL.out; simp; omega)
   clear hkeep hb5 hnew hown hgrow x0 x1 x2 x3
   go_wp2_with fail
   refine ⟨⟨k + 1,by go_num,by omega,HB5.out,Lib.hid ⟨_,A5,c5,HRL5.out,rfl, ?_,HALL.out⟩⟩,by simp [intOf]; omega⟩
   have h:=HO5.out
   simpa [Rw.val] using h
  ·have hk2 : k = l.length:=by omega
   subst hk2
   go_wp2_with fail
   go_ret
   exact ⟨HB.out,_,rfl,rs,A',c',HRL.out,rfl,HOWN.out,HONE.out⟩
end Go.Proofs.YtjeggkfgdhepaaaGreatDoor
