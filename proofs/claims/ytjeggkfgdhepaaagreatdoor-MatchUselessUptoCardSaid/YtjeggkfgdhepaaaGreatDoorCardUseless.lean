/- What the program says is useless, and what is a simple case, is what the reference says: the statement MatchUseless, as its tied card of the second form: for all datatypes, every type and every list of patterns of bulk at most 1048576 together. -/
import Derived.Test.YtjeggkfgdhepaaaGreatDoorG16
import Derived.Test.YtjeggkfgdhepaaaGreatDoorCards
import Derived.Test.YtjeggkfgdhepaaaGreatDoorTie
import Derived.SevenTiedAt
set_option linter.unusedVariables false
set_option linter.unusedSimpArgs false
namespace Go.Proofs.YtjeggkfgdhepaaaGreatDoor
open Go.ChangeShapes Go.WideShapes Go.ChangeAt Go.RowKit
namespace UselessRow
theorem cons_len {l : List Dt} (h : consN l l.length ≤ 1048576) : ∀ d ∈ l,d.cons.length ≤ 1048576:=by
 intro d hd
 obtain ⟨k,hk⟩:=List.getElem?_of_mem hd
 have h1:=consN_succ hk
 have h2:=consN_le l (k + 1)
 omega
set_option maxRecDepth 100000 in
theorem lifted (os : Os) (started : os.Started) (H : Type) (enc : TypeId × Value → H) (F : Stop.Interp) :
  ReturnsInHanded {} Tryz.checked os 7 .any ((Rows.OpenSpec.upto Rows.matchUselessSpec).preRow enc Tryz.prog Tryz.f7 Rows.matchUselessUptoRow.domain false Rows.matchUselessUptoRow.laid)
   (((Rows.OpenSpec.upto Rows.matchUselessSpec).at F).post enc Tryz.prog Tryz.f7 false true false false):=by
 refine returnsInHanded_of_row (C:=Tryz.checked) (s:=Rows.OpenSpec.upto Rows.matchUselessSpec) own started (by kernel_rfl) Tryz.func7
  (wit_row #[.slice none 0 0,.agg #[.string .empty,.string .empty,.slice none 0 0],.slice none 0 0] (by kernel_rfl)
   (OpenSpec.preRow_of_cond 8 (x:=([.nil,.agg [.lit (.string []),.lit (.string []),.nil],.nil],[],[])) (by kernel_rfl) (by kernel_rfl) (fun k hk => by cases hk; kernel_rfl) (by kernel_rfl) (wit_laidH os _))) ?_
 intro W base args ds gs before hval0 hW _ hcond _ hL hsh _
 have hk : Rows.uptoSmall H (ds ++ gs) = true:=hcond _ rfl
 have hval : ∀ (j : Nat) t v,Tryz.f7.params[j]? = some t → args[j]? = some v → Value.okWide Tryz.prog W .any base t v:=hval0
 have hW':=hW
 obtain ⟨p,q,hA0,hV,rfl,hfz,hnd⟩:=hW
 have hA : DataW.TrodAll enc Tryz.prog W 0 (fun _ => true) true Tryz.f7.params.toList args.toList ds p:=hA0
 rw [Tryz.params7] at hA hval
 obtain ⟨v0,vs0,d0,ds0,p0,q0,hargs0,rfl,rfl,h0,r0⟩:=trodAll_cons hA
 obtain ⟨v1,vs1,d1,ds1,p1,q1,rfl,rfl,rfl,h1,r1⟩:=trodAll_cons r0
 obtain ⟨v2,vs2,d2,ds2,p2,q2,rfl,rfl,rfl,h2,r2⟩:=trodAll_cons r1
 obtain ⟨rfl,rfl,rfl⟩:=trodAll_nil r2
 obtain rfl : args = #[v0,v1,v2]:=by cases args; simp_all
 obtain ⟨rfl,rfl⟩:=trodVars_none hV
 have hb : blkAll (H:=H) ([d0,d1,d2] ++ []) ≤ 1048576:=of_decide_eq_true hk
 simp only [List.append_nil,blkAll,Rows.uptoBulkAll] at hb
 have k0:=h0
 have k1:=h1
 have k2:=h2
 have lt0 : ∀ x ∈ p0,x.block < W.heap.size:=by obtain ⟨m,hm⟩:=k0; exact DataW.trod_lt m _ _ _ hm
 have lt1 : ∀ x ∈ p1,x.block < W.heap.size:=by obtain ⟨m,hm⟩:=k1; exact DataW.trod_lt m _ _ _ hm
 have lt2 : ∀ x ∈ p2,x.block < W.heap.size:=by obtain ⟨m,hm⟩:=k2; exact DataW.trod_lt m _ _ _ hm
 obtain ⟨A,c,l,rfl,i0,-,-,-,hcc⟩:=arg_dts (hval 0 22 v0 rfl rfl) h0 (by unfold blk; omega)
 obtain ⟨x1,rfl,i1,b1,c1⟩:=arg_ty (hval 1 25 v1 rfl rfl) h1 (by unfold blk; omega)
 obtain ⟨Ap,cp,ps,rfl,i2,hcp,hnp,hlp,-,hsum,hpc⟩:=arg_pts (hval 2 26 v2 rfl rfl) h2 (by unfold blk; omega)
 clear hA0 hval0
 have hask : AskIn W A l x1 Ap ps:=⟨env_of hL hsh,i0,i1,i2,fun d hd x hx => (hcc d hd x hx).2,c1,hpc,cons_len i0.cons,hsum⟩
 refine (useless_law A l c x1 Ap ps cp W hask hcp (by unfold blk at *; omega) (fun d hd x hx => (hcc d hd x hx).1)).mono fun e W' ⟨he,bel⟩ => ?_
 subst he
 exact ⟨_,rfl,_,_,_,[],_,[],hW',trodAll_mk1 (shut_bool Tryz.underlying4 _),(trodAll_cons_mk (Below.trod laidOut (by kernel_rfl) (of_decide_eq_true (by kernel_rfl)) k0 bel lt0) (trodAll_cons_mk (Below.trod laidOut (by kernel_rfl) (of_decide_eq_true (by kernel_rfl)) k1 bel lt1) (trodAll_cons_mk (Below.trod laidOut (by kernel_rfl) (of_decide_eq_true (by kernel_rfl)) k2 bel lt2) trodAll_mk0))),rfl,bel.frame _,fun h => by cases h⟩
theorem row_holds : Rows.MatchUselessUptoSaid:=
 OpenClaim.holds_of_cond 7 Tryz.f7 rfl rfl rfl rfl rfl rfl rfl ⟨rfl,rfl,rfl,rfl,rfl⟩ rfl rfl rfl rfl rfl (by kernel_rfl) Tryz.func7 (by kernel_rfl)
  (of_decide_eq_true (by kernel_rfl)) (by unfold Func.isWrapper; first | (rw [if_pos (by decide +kernel)]; kernel_rfl) | (rw [if_neg (by decide +kernel)]; exact ⟨rfl,rfl⟩))
  (fun os started H enc _ F => by rw [OpenClaim.pre_eq_preRow]; exact lifted os started H enc F)
theorem card_holds : Rows.MatchUselessUptoCardSaid:=
 Claim7.holds_tied_plain_at .later [] _ _ _ _
  row_holds (fun _ h => by cases h) (by kernel_rfl) (fun _ h => by cases h) matchUselessUpto_row_tie rfl ⟨rfl,rfl⟩ (by kernel_rfl) rfl
  (fun f fn hf hfn => by
   obtain rfl : f = 7:=Option.some.inj ((show Tryz.prog.funcNamed "virgate/virgatelaw08.MatchUseless" = some 7 by kernel_rfl).symm.trans hf) |>.symm
   obtain rfl : fn = Tryz.f7:=(Option.some.inj (Tryz.func7.symm.trans hfn)).symm
   exact ⟨by kernel_rfl,fun j t ht => by
    rw [Tryz.params7] at ht
    have hm : t ∈ [22,25,26]:=by simpa using Array.mem_of_getElem? ht
    have hall : ([22,25,26].all fun u => !Tryz.prog.wantsStandIn u) = true:=by kernel_rfl
    exact (show Tryz.prog.wantsStandIn t = false by simpa using List.all_eq_true.1 hall t hm)⟩)
  (by kernel_rfl)
end UselessRow
theorem useless_holds : Rows.MatchUselessUptoCardSaid:=UselessRow.card_holds
#print axioms useless_holds
end Go.Proofs.YtjeggkfgdhepaaaGreatDoor
