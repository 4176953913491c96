/- Useless over no datatypes, for patterns that match all, at ints. -/
import Derived.Test.YtjeggkfgdhepaaaGreatDoorG05
import Derived.ProofKit
import Derived.OpenShut
import Derived.ShutString
import Derived.ChangeArms
import Derived.Deep.Slices
import Derived.Deep.Fields
set_option linter.unusedVariables false
set_option linter.unusedSimpArgs false
namespace Go.Proofs.YtjeggkfgdhepaaaGreatDoor
open Go.RowKit
open Go.Proofs
theorem row_pt1 {B k : Nat} {W : World} {q : Pt} {T : TypeId} (hb : Blk W k #[.string q.dof,.string q.name,.int .i64 q.num,.slice q.at_ q.args.length q.cap] T) (hk : k < B) : RowAt B W 4 (some ⟨k,0,none⟩) ([q].map Pt.cells):=by
 refine fun _ => ⟨k,0,rfl,hk,fun i x hi j v hj => ?_⟩
 rw [hb.cell]
 rcases i with _ | i
 ·simp only [List.map_cons,List.getElem?_cons_zero,Option.some.injEq] at hi
  subst hi
  unfold Pt.cells at hj
  rcases j with _ | _ | _ | _ | j
  ·exact hj
  ·exact hj
  ·exact hj
  ·exact hj
  ·simp at hj
 ·simp at hi
theorem row_vals {B n : Nat} {w : World} {A : Option Addr} {c : Nat} {xs : List Value} {e : TypeId} (h : w.ownsRow B e 1 (.slice A n c) n xs) : RowAt w.heap.size w 1 A (xs.map fun v => [v]):=by
 intro hlen
 rw [List.length_map] at hlen
 obtain ⟨g,hg,-,-⟩:=row_cell h 0 xs[0] (by rw [List.getElem?_eq_getElem hlen])
 subst hg
 refine ⟨g,0,rfl,(h.lt g rfl).2,fun i x hi j v hj => ?_⟩
 rw [List.getElem?_map] at hi
 obtain ⟨y,hy,rfl⟩:=Option.map_eq_some_iff.1 hi
 rcases j with _ | j
 ·simp only [List.getElem?_cons_zero,Option.some.injEq] at hj
  subst hj
  obtain ⟨g',hg',hc,-⟩:=row_cell h i y hy
  simp only [Option.some.injEq,Addr.mk.injEq,and_true] at hg'
  subst hg'
  simpa using hc
 ·simp at hj
theorem rowsIn_of {B : Nat} {W : World} {v : Value} {l : List Pt} {k : Nat} (h : RowsO B W v l k) (hk : k ≤ 1048576) (hall : ∀ q ∈ l,q.In W.heap.size W) (hw : ∀ q ∈ l,wildD q.dof = true) :
  ∃ (rs : List Rw) (A : Option Addr) (c : Nat),rs.length = k ∧ v = .slice A k c ∧ RowsIn W.heap.size W A rs ∧ ∀ r ∈ rs,wildRow r:=by
 obtain ⟨rs,A,c,hl,rfl,hown,hone⟩:=h
 have hmem : ∀ r ∈ rs,∃ q b,q ∈ l ∧ r = ⟨some ⟨b,0,none⟩,1,[q]⟩ ∧ Blk W b #[.string q.dof,.string q.name,.int .i64 q.num,.slice q.at_ q.args.length q.cap] 28:=fun r hr => by
  obtain ⟨i,hi⟩:=List.getElem?_of_mem hr
  obtain ⟨q,b,h1,h2,h3⟩:=hone i r hi
  exact ⟨q,b,List.mem_of_getElem? h1,h2,h3⟩
 refine ⟨rs,A,c,hl,rfl,⟨by have:=row_vals hown; rwa [List.map_map] at this,fun r hr => ?_,by omega⟩,fun r hr => ?_⟩
 ·obtain ⟨q,b,hq,rfl,hb⟩:=hmem r hr
  exact ⟨row_pt1 hb hb.lt,fun p hp => by simp only [List.mem_cons,List.not_mem_nil,or_false] at hp; subst hp; exact hall _ hq,Nat.le_refl _,(show (1 : Nat) ≤ 9223372036854775807 by decide)⟩
 ·obtain ⟨q,b,hq,rfl,hb⟩:=hmem r hr
  exact ⟨q,rfl,hw q hq,rfl⟩
theorem infoInt : (Tryz.prog.info? 3).map (fun i => (i.zero,i.size,i.bytes)) = some (some (.int .i64 0),1,8):=by kernel_rfl
def usl (k : Nat) : List Value:=(List.range' 1 (k - 1)).map fun (i : Nat) => Value.int .i64 i
def OwnI (B : Nat) (w : World) (v : Value) (xs : List Value) : Prop:=∃ A c,v = .slice A xs.length c ∧ w.ownsRow B 3 1 (.slice A xs.length c) xs.length xs
theorem RowAt.take {B : Nat} {w : World} {k : Nat} {A : Option Addr} {l : List (List Value)} (h : RowAt B w k A l) (j : Nat) : RowAt B w k A (l.take j):=fun hl => by
 obtain ⟨b,off,e,hb,hc⟩:=h (by simp at hl; omega)
 refine ⟨b,off,e,hb,fun i x hi => hc i x ?_⟩
 rw [List.getElem?_take] at hi
 split at hi
 ·exact hi
 ·cases hi
theorem own_wide {B B' : Nat} {w : World} {v : Value} {n size : Nat} {xs : List Value} {e : TypeId} (h : w.ownsRow B' e size v n xs) (hB : B ≤ B') : w.ownsRow B e size v n xs:=by
 refine ⟨h.1, ?_⟩
 rcases h.2 with hn | ⟨g,cap,cur,e1,hb,rest⟩
 ·exact .inl hn
 ·exact .inr ⟨g,cap,cur,e1,Nat.le_trans hB hb,rest⟩
theorem RowsO.keep {B : Nat} {w w' : World} {v : Value} {l : List Pt} {k : Nat} (h : RowsO B w v l k) (hb : Below w.heap.size w w') : RowsO B w' v l k:=by
 obtain ⟨rs,A,c,h1,h2,h3,h4⟩:=h
 exact ⟨rs,A,c,h1,h2,row_stays h3 fun k hk => hb.block k (h3.lt k hk).2,fun i r hi => by obtain ⟨q,b,a1,a2,a3⟩:=h4 i r hi; exact ⟨q,b,a1,a2,a3.below hb a3.lt⟩⟩
def P7 (bt bp : Nat) (t : Ty) (q : Pt) (W : World) : Prop:=W.cell? ⟨bt,0,none⟩ = some (.string t.dof) ∧ W.cell? ⟨bt,1,none⟩ = some (.string t.name) ∧ W.cell? ⟨bt,2,none⟩ = some (.slice t.at_ t.args.length t.cap) ∧
 W.cell? ⟨bp,0,none⟩ = some (.string q.dof) ∧ W.cell? ⟨bp,1,none⟩ = some (.string q.name) ∧ W.cell? ⟨bp,2,none⟩ = some (.int .i64 q.num) ∧ W.cell? ⟨bp,3,none⟩ = some (.slice q.at_ q.args.length q.cap)
set_option maxRecDepth 100000 in
set_option maxHeartbeats 4000000 in
theorem useless_wild (t : Ty) (Ap : Option Addr) (ps : List Pt) (cp : Nat) (w : World) (h : Env w) (ht : t.In w.heap.size w) (hp : PtsIn w.heap.size w Ap ps) (hint : (t.dof.toList == [105,110,116]) = true) (hw : ∀ q ∈ ps,wildD q.dof = true) (hcap : ps.length ≤ cp) (hok : askedErr [] t ps = 0) (hsm : ps.length ≤ 12) :
  Calls Tryz.prog 18 #[.slice none 0 0,t.val,.slice Ap ps.length cp] w fun e w' => Below w.heap.size w w' ∧ ∃ v,e = .returned (.tuple #[v,.int .i64 0]) ∧ OwnI w.heap.size w' v (usl ps.length):=by
 have HP:=Lib.hid hp
 have HW:=Lib.hid hw
 have HT:=Lib.hid ht
 have HASK:=Lib.hid (fun (W : World) (hW : Below w.heap.size w W) => asked_any anyPtr none [] 0 t Ap ps cp W (fun _ W bD bC bE _ h1 _ _ => seeker_none W bD bC bE _ h1) (h.next hW) ⟨fun h => absurd h (by simp),fun d hd => absurd hd (by simp),by simp,by simp [consN]⟩ (ht.at_ hW hW.size) (hp.at_ hW hW.size))
 rw [hok] at HASK
 obtain ⟨i0,hi,hz0,hz1,hz2⟩:=info_parts infoInt
 clear hp hw h hok ht
 have HB0:=Lib.hid ((Below.refl w.heap.size w).alloc (Nat.le_refl _) (.cells #[.string t.dof,.string t.name,.slice t.at_ t.args.length t.cap] 25))
 have K0:=Lib.hid (Blk.new w #[.string t.dof,.string t.name,.slice t.at_ t.args.length t.cap] 25)
 unfold Ty.val at *
 go_enter Tryz.func18,Tryz.ntmps18
 go_wp2_with fail
 refine Calls.mono (HASK.out _ HB0.out) ?_
 rintro e w1 ⟨hb1,⟨-,v1,rfl,b,rfl⟩ | ⟨hne,-⟩⟩
 case inr => exact absurd rfl hne
 have HB1:=Lib.hid (HB0.out.trans (hb1.mono HB0.out.size))
 have K1:=Lib.hid (K0.out.below hb1 K0.out.lt)
 clear hb1
 go_wp2_with fail
 go_loopw [27,10] (fun iv ov wr => ∃ k : Nat,iv = .int .i64 k ∧ k ≤ ps.length ∧ Hid (Below w.heap.size w wr) ∧ Hid (Blk wr w.heap.size #[.string t.dof,.string t.name,.slice t.at_ t.args.length t.cap] 25) ∧ Hid (OwnI (w.heap.size + 1) wr ov (usl k))) (fun iv _ _ => ps.length - (intOf iv).toNat)
 case atStart => exact ⟨0,rfl,Nat.zero_le _,HB1.out,K1.out,Lib.hid ⟨none,0,rfl,World.ownsRow_nil _ _ _ _⟩⟩
 case round =>
  obtain ⟨k,rfl,hk,HB,HK,HO⟩:=hrel
  obtain ⟨A',c',rfl,hown⟩:=HO.out
  have HOWN:=Lib.hid hown
  clear hown
  by_cases hlt : k < ps.length
  ·obtain ⟨q,b0,off,hq,hmem,rfl,hb,x0,x1,x2,x3⟩:=Pt.arg_at HP.out.row HB.out hlt
   have HQ:=Lib.hid hq
   have hs0:=HB.out.size
   have kc : k ≤ cp:=by omega
   clear hq
   go_wp2_with fail
   have HP0:=Lib.hid (show P7 w.heap.size wr.heap.size t q (wr.alloc (.cells #[.string q.dof,.string q.name,.int .i64 q.num,.slice q.at_ q.args.length q.cap] 28)) from ⟨(HK.out.alloc _).cell 0,(HK.out.alloc _).cell 1,(HK.out.alloc _).cell 2,(Blk.new wr _ _).cell 0,(Blk.new wr _ _).cell 1,(Blk.new wr _ _).cell 2,(Blk.new wr _ _).cell 3⟩)
   have HBW:=Lib.hid (HB.out.alloc hs0 (.cells #[.string q.dof,.string q.name,.int .i64 q.num,.slice q.at_ q.args.length q.cap] 28))
   have HKW:=Lib.hid (HK.out.alloc (.cells #[.string q.dof,.string q.name,.int .i64 q.num,.slice q.at_ q.args.length q.cap] 28))
   have HQW:=Lib.hid (Blk.new wr #[.string q.dof,.string q.name,.int .i64 q.num,.slice q.at_ q.args.length q.cap] 28)
   have HOW:=Lib.hid (World.ownsRow.alloc HOWN.out (.cells #[.string q.dof,.string q.name,.int .i64 q.num,.slice q.at_ q.args.length q.cap] 28))
   clear x0 x1 x2 x3 HP0
   generalize wr.alloc (.cells #[.string q.dof,.string q.name,.int .i64 q.num,.slice q.at_ q.args.length q.cap] 28) = w0 at HBW HKW HQW HOW ⊢
   have HSF:=Lib.hid (fun W (hW : Below w0.heap.size w0 W) => (show P7 w.heap.size wr.heap.size t q W from by
    have k1:=HKW.out.below hW HKW.out.lt
    have k2:=HQW.out.below hW HQW.out.lt
    exact ⟨k1.cell 0,k1.cell 1,k1.cell 2,k2.cell 0,k2.cell 1,k2.cell 2,k2.cell 3⟩))
   have HZ0:=Lib.hid (Below.refl w0.heap.size w0)
   have HROWS:=Lib.hid (fun (W : World) (hW : Below w.heap.size w W) => (by
    have hl : (ps.take k).length = k:=by simp; omega
    have h:=rows_any (some ⟨b0,off,none⟩) (ps.take k) cp W (by omega) (by rw [List.map_take]; exact RowAt.take ((HP.out.at_ hW hW.size).row) k) (fun q hq => (HP.out.each q (List.mem_of_mem_take hq)).at_ hW hW.size)
    rw [hl] at h
    exact h : Calls Tryz.prog 45 #[.slice (some ⟨b0,off,none⟩) k cp] W fun e w' => Below W.heap.size W w' ∧ ∃ v,e = .returned v ∧ RowsO W.heap.size w' v (ps.take k) k))
   have HSEEK:=Lib.hid (fun (W : World) (bt bp : Nat) (A9 : Option Addr) (c9 : Nat) (hW : Below w.heap.size w W) (kt : Blk W bt #[.string t.dof,.string t.name,.slice t.at_ t.args.length t.cap] 25) (kp : Blk W bp #[.string q.dof,.string q.name,.int .i64 q.num,.slice q.at_ q.args.length q.cap] 28) (ro : RowsO w.heap.size W (.slice A9 k c9) (ps.take k) k) => (by
    obtain ⟨rs,A8,c8,hl8,he,hri,hwr⟩:=rowsIn_of ro (by omega) (fun q hq => (HP.out.each q (List.mem_of_mem_take hq)).at_ hW hW.size) (fun q hq => HW.out q (List.mem_of_mem_take hq))
    cases he
    have hs:=seek_flat b bt 0 t A9 rs c9 bp 0 q W hint (row_ty1 kt kt.lt) hri hwr (row_pt1 kp kp.lt) (HW.out q hmem)
    rw [hl8] at hs
    exact hs : Calls Tryz.prog 44 #[.pointer (some ⟨b,0,none⟩),.slice (some ⟨bt,0,none⟩) 1 1,.slice A9 k c9,.slice (some ⟨bp,0,none⟩) 1 1] W (FlatPost W ((k : Int) == 0))))
   obtain ⟨z,hz⟩ : ∃ z,((k : Int) == 0) = z:=⟨_,rfl⟩
   have HU1:=Lib.hid (fun (hh : z = true) => (show usl (k + 1) = usl k by
    rw [hh] at hz
    have : k = 0:=by simpa using hz
    subst this
    rfl))
   have HU2:=Lib.hid (fun (hh : z = false) => (show usl (k + 1) = usl k ++ [.int .i64 (k : Nat)] by
    rw [hh] at hz
    have hk0 : k ≠ 0:=by simpa using hz
    unfold usl
    rw [show k + 1 - 1 = (k - 1) + 1 by omega,List.range'_concat,List.map_append]
    simp
    omega))
   have HUL:=Lib.hid (show (usl k).length ≤ 12 by unfold usl; simp; omega)
   rw [hz] at HSEEK
   clear hz
   refine region_ord (P7 w.heap.size wr.heap.size t q) (.read 0 (.read 1 (.read 3 (.read 4 (.read 5 (.read 7 (.three 2 (.two 6 (.one 8 (.one 9 (.read 10 (.read 11 (.read 12 (.one 13 (.one 14 .done))))))) 8 (.one 6 (.one 9 (.read 10 (.read 11 (.read 12 (.one 13 (.one 14 .done)))))))) 6 (.two 2 (.one 8 (.one 9 (.read 10 (.read 11 (.read 12 (.one 13 (.one 14 .done))))))) 8 (.one 2 (.one 9 (.read 10 (.read 11 (.read 12 (.one 13 (.one 14 .done)))))))) 8 (.two 2 (.one 6 (.one 9 (.read 10 (.read 11 (.read 12 (.one 13 (.one 14 .done))))))) 6 (.one 2 (.one 9 (.read 10 (.read 11 (.read 12 (.one 13 (.one 14 .done))))))))))))))) (by kernel_rfl) (by kernel_rfl) (HSF.out _ HZ0.out.drew) ?_
   iterate 6
    refine wpOrd_read _ ?_ rfl (by rfl) (fun W hW => ?_) ?_
    rotate_left
    ·unfold P7 at hW
     go_simp
     try with_reducible rfl
    simp only [Act.put,List.setIfInBounds_toArray,List.set_cons_zero,List.set_cons_succ]
   refine ⟨?_, ?_, ?_⟩
   ·refine stepAt_of _ rfl rfl (fun K hK => ?_)
    go_simp
    have KT:=Lib.hid (show Blk ((w0.alloc (.cells #[.string t.dof,.string t.name,.slice t.at_ t.args.length t.cap] 25)).drew) w0.heap.size #[.string t.dof,.string t.name,.slice t.at_ t.args.length t.cap] 25 from Blk.new w0 _ _)
    have HS1:=Lib.hid (show Below w0.heap.size w0 ((w0.alloc (.cells #[.string t.dof,.string t.name,.slice t.at_ t.args.length t.cap] 25)).drew) from ((Below.refl _ _).alloc (Nat.le_refl _) _).drew)
    have HZ1:=Lib.hid (HZ0.out.trans (HS1.out.mono HZ0.out.size))
    refine hK _ _ ⟨HSF.out _ HZ1.out, ?_⟩
    clear hK K
    generalize ((w0.alloc (.cells #[.string t.dof,.string t.name,.slice t.at_ t.args.length t.cap] 25)).drew) = wx1 at KT HS1 HZ1 ⊢
    refine wpOrd_two ?_ ?_
    ·refine stepAt_of _ rfl rfl (fun K hK => ?_)
     go_simp
     have HD:=Lib.hid (HBW.out.trans (HZ1.out.mono HBW.out.size))
     refine Calls.mono (HROWS.out _ HD.out) ?_
     rintro e wx2 ⟨hb9,v9,rfl,hro⟩
     obtain ⟨rs9,A9,c9,hr1,rfl,hr2,hr3⟩:=hro
     have RO : Hid (RowsO w.heap.size wx2 (.slice A9 k c9) (ps.take k) k):=Lib.hid ⟨rs9,A9,c9,hr1,rfl,own_wide hr2 HD.out.size,hr3⟩
     have HS2:=Lib.hid (show Below wx1.heap.size wx1 wx2 from hb9)
     have KT:=Lib.hid (KT.out.below HS2.out KT.out.lt)
     have HZ2:=Lib.hid (HZ1.out.trans (HS2.out.mono HZ1.out.size))
     refine hK _ _ ⟨HSF.out _ HZ2.out, ?_⟩
     clear hK K hb9 hr1 hr2 hr3
     refine wpOrd_one ?_
     ·refine stepAt_of _ rfl rfl (fun K hK => ?_)
      go_simp
      have KP:=Lib.hid (show Blk (wx2.alloc (.cells #[.string q.dof,.string q.name,.int .i64 q.num,.slice q.at_ q.args.length q.cap] 28)) wx2.heap.size #[.string q.dof,.string q.name,.int .i64 q.num,.slice q.at_ q.args.length q.cap] 28 from Blk.new wx2 _ _)
      have HS3:=Lib.hid (show Below wx2.heap.size wx2 (wx2.alloc (.cells #[.string q.dof,.string q.name,.int .i64 q.num,.slice q.at_ q.args.length q.cap] 28)) from (Below.refl _ _).alloc (Nat.le_refl _) _)
      have KT:=Lib.hid (KT.out.below HS3.out KT.out.lt)
      have RO:=Lib.hid (RO.out.keep HS3.out)
      have HZ3:=Lib.hid (HZ2.out.trans (HS3.out.mono HZ2.out.size))
      refine hK _ _ ⟨HSF.out _ HZ3.out, ?_⟩
      clear hK K
      generalize (wx2.alloc (.cells #[.string q.dof,.string q.name,.int .i64 q.num,.slice q.at_ q.args.length q.cap] 28)) = wx3 at KP HS3 HZ3 KT RO ⊢
      refine wpOrd_one ?_
      refine stepAt_of _ rfl rfl (fun K hK => ?_)
      go_simp
      refine Calls.mono (HSEEK.out _ _ _ _ _ (HBW.out.trans (HZ3.out.mono HBW.out.size)) KT.out KP.out RO.out) ?_
      rintro e wz ⟨hbz,vz,rfl⟩
      have HZZ:=Lib.hid (HZ3.out.trans (hbz.mono HZ3.out.size))
      refine hK _ _ ⟨HSF.out _ HZZ.out, ?_⟩
      clear hK K hbz
      refine wpOrd_read _ ?_ rfl (by rfl) (fun W hW => ?_) ?_
      rotate_left
      ·unfold P7 at hW
       go_simp
       try with_reducible rfl
      simp only [Act.put,List.setIfInBounds_toArray,List.set_cons_zero,List.set_cons_succ]
      refine wpOrd_read _ ?_ rfl (by rfl) (fun W hW => ?_) ?_
      rotate_left
      ·unfold P7 at hW
       go_simp
       try with_reducible rfl
      simp only [Act.put,List.setIfInBounds_toArray,List.set_cons_zero,List.set_cons_succ]
      refine wpOrd_read _ ?_ rfl (by rfl) (fun W hW => ?_) ?_
      rotate_left
      ·unfold P7 at hW
       go_simp
       try with_reducible rfl
      simp only [Act.put,List.setIfInBounds_toArray,List.set_cons_zero,List.set_cons_succ]
      iterate 2
       refine wpOrd_one ?_
       refine stepAt_of _ rfl rfl (fun K hK => ?_)
       go_simp
       refine hK _ _ ⟨HSF.out _ HZZ.out, ?_⟩
       clear hK K
      refine wpOrd_done ?_
      refine NoPanic.normal ?_
      have HBZ:=Lib.hid (HBW.out.trans (HZZ.out.mono HBW.out.size))
      have HKZ:=Lib.hid (HKW.out.below HZZ.out HKW.out.lt)
      have HOZ:=Lib.hid (row_stays HOW.out fun i hi => HZZ.out.block i (HOW.out.lt i hi).2)
      have hzs:=HKZ.out.lt
      cases z
      case true =>
       go_wp2_with fail
       exact ⟨⟨k + 1,by go_num,by omega,HBZ.out,HKZ.out,Lib.hid ⟨A',c',by rw [HU1.out (by simp)],by rw [HU1.out (by simp)]; exact HOZ.out⟩⟩,by simp [intOf]; omega⟩
      case false =>
       go_wp2_with (at_builtin; go_must (refine wpList_append_own_at _ rfl (.tmp 47) (.tmp 49) 41 rfl (w.heap.size + 1) 3 i0 _ 1 8 Tryz.underlying41 hi hz0 hz1 hz2 rfl (by decide) (.slice A' (usl k).length c') (usl k).length (usl k) rfl (HOZ.out.alloc _) ⟨wz.heap.size,0,none⟩ 1 1 [.int .i64 k] rfl rfl (World.news_of_block (heap_alloc_new wz _)) (by simp [Value.oneCell']) (by have:=HUL.out; unfold maxLen; omega) (by have:=HUL.out; omega) (by first | omega | (simp; omega)) ?_))
       intro v' w9 hown hgrow _ _
       obtain ⟨A5,c5,rfl,-⟩:=row_slice hown
       have hb9 : Below w.heap.size w w9:=(HBZ.out.alloc HBZ.out.size _).grown hgrow (by simp; omega) (fun i hi => by have:=(HOZ.out.lt i hi).1; omega)
       have hk9 : Blk w9 w.heap.size _ _:=(hgrow.block _ (by simp; omega) (fun e => by have:=(HOZ.out.lt _ e.symm).1; omega)).trans (HKZ.out.alloc _)
       have HB9:=Lib.hid hb9
       have HK9:=Lib.hid hk9
       have HO9:=Lib.hid hown
       clear hown hgrow hb9 hk9
       go_wp2_with fail
       exact ⟨⟨k + 1,by go_num,by omega,HB9.out,HK9.out,Lib.hid ⟨A5,c5,by rw [HU2.out (by simp)]; simp,by rw [HU2.out (by simp)]; have:=HO9.out; simpa using this⟩⟩,by simp [intOf]; omega⟩
    ·refine stepAt_of _ rfl rfl (fun K hK => ?_)
     go_simp
     have KP:=Lib.hid (show Blk (wx1.alloc (.cells #[.string q.dof,.string q.name,.int .i64 q.num,.slice q.at_ q.args.length q.cap] 28)) wx1.heap.size #[.string q.dof,.string q.name,.int .i64 q.num,.slice q.at_ q.args.length q.cap] 28 from Blk.new wx1 _ _)
     have HS2:=Lib.hid (show Below wx1.heap.size wx1 (wx1.alloc (.cells #[.string q.dof,.string q.name,.int .i64 q.num,.slice q.at_ q.args.length q.cap] 28)) from (Below.refl _ _).alloc (Nat.le_refl _) _)
     have KT:=Lib.hid (KT.out.below HS2.out KT.out.lt)
     have HZ2:=Lib.hid (HZ1.out.trans (HS2.out.mono HZ1.out.size))
     refine hK _ _ ⟨HSF.out _ HZ2.out, ?_⟩
     clear hK K
     generalize (wx1.alloc (.cells #[.string q.dof,.string q.name,.int .i64 q.num,.slice q.at_ q.args.length q.cap] 28)) = wx2 at KP HS2 HZ2 KT ⊢
     refine wpOrd_one ?_
     ·refine stepAt_of _ rfl rfl (fun K hK => ?_)
      go_simp
      have HD:=Lib.hid (HBW.out.trans (HZ2.out.mono HBW.out.size))
      refine Calls.mono (HROWS.out _ HD.out) ?_
      rintro e wx3 ⟨hb9,v9,rfl,hro⟩
      obtain ⟨rs9,A9,c9,hr1,rfl,hr2,hr3⟩:=hro
      have RO : Hid (RowsO w.heap.size wx3 (.slice A9 k c9) (ps.take k) k):=Lib.hid ⟨rs9,A9,c9,hr1,rfl,own_wide hr2 HD.out.size,hr3⟩
      have HS3:=Lib.hid (show Below wx2.heap.size wx2 wx3 from hb9)
      have KT:=Lib.hid (KT.out.below HS3.out KT.out.lt)
      have KP:=Lib.hid (KP.out.below HS3.out KP.out.lt)
      have HZ3:=Lib.hid (HZ2.out.trans (HS3.out.mono HZ2.out.size))
      refine hK _ _ ⟨HSF.out _ HZ3.out, ?_⟩
      clear hK K hb9 hr1 hr2 hr3
      refine wpOrd_one ?_
      refine stepAt_of _ rfl rfl (fun K hK => ?_)
      go_simp
      refine Calls.mono (HSEEK.out _ _ _ _ _ (HBW.out.trans (HZ3.out.mono HBW.out.size)) KT.out KP.out RO.out) ?_
      rintro e wz ⟨hbz,vz,rfl⟩
      have HZZ:=Lib.hid (HZ3.out.trans (hbz.mono HZ3.out.size))
      refine hK _ _ ⟨HSF.out _ HZZ.out, ?_⟩
      clear hK K hbz
      refine wpOrd_read _ ?_ rfl (by rfl) (fun W hW => ?_) ?_
      rotate_left
      ·unfold P7 at hW
       go_simp
       try with_reducible rfl
      simp only [Act.put,List.setIfInBounds_toArray,List.set_cons_zero,List.set_cons_succ]
      refine wpOrd_read _ ?_ rfl (by rfl) (fun W hW => ?_) ?_
      rotate_left
      ·unfold P7 at hW
       go_simp
       try with_reducible rfl
      simp only [Act.put,List.setIfInBounds_toArray,List.set_cons_zero,List.set_cons_succ]
      refine wpOrd_read _ ?_ rfl (by rfl) (fun W hW => ?_) ?_
      rotate_left
      ·unfold P7 at hW
       go_simp
       try with_reducible rfl
      simp only [Act.put,List.setIfInBounds_toArray,List.set_cons_zero,List.set_cons_succ]
      iterate 2
       refine wpOrd_one ?_
       refine stepAt_of _ rfl rfl (fun K hK => ?_)
       go_simp
       refine hK _ _ ⟨HSF.out _ HZZ.out, ?_⟩
       clear hK K
      refine wpOrd_done ?_
      refine NoPanic.normal ?_
      have HBZ:=Lib.hid (HBW.out.trans (HZZ.out.mono HBW.out.size))
      have HKZ:=Lib.hid (HKW.out.below HZZ.out HKW.out.lt)
      have HOZ:=Lib.hid (row_stays HOW.out fun i hi => HZZ.out.block i (HOW.out.lt i hi).2)
      have hzs:=HKZ.out.lt
      cases z
      case true =>
       go_wp2_with fail
       exact ⟨⟨k + 1,by go_num,by omega,HBZ.out,HKZ.out,Lib.hid ⟨A',c',by rw [HU1.out (by simp)],by rw [HU1.out (by simp)]; exact HOZ.out⟩⟩,by simp [intOf]; omega⟩
      case false =>
       go_wp2_with (at_builtin; go_must (refine wpList_append_own_at _ rfl (.tmp 47) (.tmp 49) 41 rfl (w.heap.size + 1) 3 i0 _ 1 8 Tryz.underlying41 hi hz0 hz1 hz2 rfl (by decide) (.slice A' (usl k).length c') (usl k).length (usl k) rfl (HOZ.out.alloc _) ⟨wz.heap.size,0,none⟩ 1 1 [.int .i64 k] rfl rfl (World.news_of_block (heap_alloc_new wz _)) (by simp [Value.oneCell']) (by have:=HUL.out; unfold maxLen; omega) (by have:=HUL.out; omega) (by first | omega | (simp; omega)) ?_))
       intro v' w9 hown hgrow _ _
       obtain ⟨A5,c5,rfl,-⟩:=row_slice hown
       have hb9 : Below w.heap.size w w9:=(HBZ.out.alloc HBZ.out.size _).grown hgrow (by simp; omega) (fun i hi => by have:=(HOZ.out.lt i hi).1; omega)
       have hk9 : Blk w9 w.heap.size _ _:=(hgrow.block _ (by simp; omega) (fun e => by have:=(HOZ.out.lt _ e.symm).1; omega)).trans (HKZ.out.alloc _)
       have HB9:=Lib.hid hb9
       have HK9:=Lib.hid hk9
       have HO9:=Lib.hid hown
       clear hown hgrow hb9 hk9
       go_wp2_with fail
       exact ⟨⟨k + 1,by go_num,by omega,HB9.out,HK9.out,Lib.hid ⟨A5,c5,by rw [HU2.out (by simp)]; simp,by rw [HU2.out (by simp)]; have:=HO9.out; simpa using this⟩⟩,by simp [intOf]; omega⟩
   ·refine stepAt_of _ rfl rfl (fun K hK => ?_)
    go_simp
    have HD:=Lib.hid (show Below w.heap.size w w0.drew from (HBW.out.trans (HZ0.out.mono HBW.out.size)).drew)
    refine Calls.mono (HROWS.out _ HD.out) ?_
    rintro e wx1 ⟨hb9,v9,rfl,hro⟩
    obtain ⟨rs9,A9,c9,hr1,rfl,hr2,hr3⟩:=hro
    have RO : Hid (RowsO w.heap.size wx1 (.slice A9 k c9) (ps.take k) k):=Lib.hid ⟨rs9,A9,c9,hr1,rfl,own_wide hr2 HD.out.size,hr3⟩
    have HS1:=Lib.hid (show Below w0.heap.size w0 wx1 from (Below.refl _ _).drew.trans hb9)
    have HZ1:=Lib.hid (HZ0.out.trans (HS1.out.mono HZ0.out.size))
    refine hK _ _ ⟨HSF.out _ HZ1.out, ?_⟩
    clear hK K hb9 hr1 hr2 hr3
    refine wpOrd_two ?_ ?_
    ·refine stepAt_of _ rfl rfl (fun K hK => ?_)
     go_simp
     have KT:=Lib.hid (show Blk (wx1.alloc (.cells #[.string t.dof,.string t.name,.slice t.at_ t.args.length t.cap] 25)) wx1.heap.size #[.string t.dof,.string t.name,.slice t.at_ t.args.length t.cap] 25 from Blk.new wx1 _ _)
     have HS2:=Lib.hid (show Below wx1.heap.size wx1 (wx1.alloc (.cells #[.string t.dof,.string t.name,.slice t.at_ t.args.length t.cap] 25)) from (Below.refl _ _).alloc (Nat.le_refl _) _)
     have RO:=Lib.hid (RO.out.keep HS2.out)
     have HZ2:=Lib.hid (HZ1.out.trans (HS2.out.mono HZ1.out.size))
     refine hK _ _ ⟨HSF.out _ HZ2.out, ?_⟩
     clear hK K
     generalize (wx1.alloc (.cells #[.string t.dof,.string t.name,.slice t.at_ t.args.length t.cap] 25)) = wx2 at KT HS2 HZ2 RO ⊢
     refine wpOrd_one ?_
     ·refine stepAt_of _ rfl rfl (fun K hK => ?_)
      go_simp
      have KP:=Lib.hid (show Blk (wx2.alloc (.cells #[.string q.dof,.string q.name,.int .i64 q.num,.slice q.at_ q.args.length q.cap] 28)) wx2.heap.size #[.string q.dof,.string q.name,.int .i64 q.num,.slice q.at_ q.args.length q.cap] 28 from Blk.new wx2 _ _)
      have HS3:=Lib.hid (show Below wx2.heap.size wx2 (wx2.alloc (.cells #[.string q.dof,.string q.name,.int .i64 q.num,.slice q.at_ q.args.length q.cap] 28)) from (Below.refl _ _).alloc (Nat.le_refl _) _)
      have RO:=Lib.hid (RO.out.keep HS3.out)
      have KT:=Lib.hid (KT.out.below HS3.out KT.out.lt)
      have HZ3:=Lib.hid (HZ2.out.trans (HS3.out.mono HZ2.out.size))
      refine hK _ _ ⟨HSF.out _ HZ3.out, ?_⟩
      clear hK K
      generalize (wx2.alloc (.cells #[.string q.dof,.string q.name,.int .i64 q.num,.slice q.at_ q.args.length q.cap] 28)) = wx3 at KP HS3 HZ3 RO KT ⊢
      refine wpOrd_one ?_
      refine stepAt_of _ rfl rfl (fun K hK => ?_)
      go_simp
      refine Calls.mono (HSEEK.out _ _ _ _ _ (HBW.out.trans (HZ3.out.mono HBW.out.size)) KT.out KP.out RO.out) ?_
      rintro e wz ⟨hbz,vz,rfl⟩
      have HZZ:=Lib.hid (HZ3.out.trans (hbz.mono HZ3.out.size))
      refine hK _ _ ⟨HSF.out _ HZZ.out, ?_⟩
      clear hK K hbz
      refine wpOrd_read _ ?_ rfl (by rfl) (fun W hW => ?_) ?_
      rotate_left
      ·unfold P7 at hW
       go_simp
       try with_reducible rfl
      simp only [Act.put,List.setIfInBounds_toArray,List.set_cons_zero,List.set_cons_succ]
      refine wpOrd_read _ ?_ rfl (by rfl) (fun W hW => ?_) ?_
      rotate_left
      ·unfold P7 at hW
       go_simp
       try with_reducible rfl
      simp only [Act.put,List.setIfInBounds_toArray,List.set_cons_zero,List.set_cons_succ]
      refine wpOrd_read _ ?_ rfl (by rfl) (fun W hW => ?_) ?_
      rotate_left
      ·unfold P7 at hW
       go_simp
       try with_reducible rfl
      simp only [Act.put,List.setIfInBounds_toArray,List.set_cons_zero,List.set_cons_succ]
      iterate 2
       refine wpOrd_one ?_
       refine stepAt_of _ rfl rfl (fun K hK => ?_)
       go_simp
       refine hK _ _ ⟨HSF.out _ HZZ.out, ?_⟩
       clear hK K
      refine wpOrd_done ?_
      refine NoPanic.normal ?_
      have HBZ:=Lib.hid (HBW.out.trans (HZZ.out.mono HBW.out.size))
      have HKZ:=Lib.hid (HKW.out.below HZZ.out HKW.out.lt)
      have HOZ:=Lib.hid (row_stays HOW.out fun i hi => HZZ.out.block i (HOW.out.lt i hi).2)
      have hzs:=HKZ.out.lt
      cases z
      case true =>
       go_wp2_with fail
       exact ⟨⟨k + 1,by go_num,by omega,HBZ.out,HKZ.out,Lib.hid ⟨A',c',by rw [HU1.out (by simp)],by rw [HU1.out (by simp)]; exact HOZ.out⟩⟩,by simp [intOf]; omega⟩
      case false =>
       go_wp2_with (at_builtin; go_must (refine wpList_append_own_at _ rfl (.tmp 47) (.tmp 49) 41 rfl (w.heap.size + 1) 3 i0 _ 1 8 Tryz.underlying41 hi hz0 hz1 hz2 rfl (by decide) (.slice A' (usl k).length c') (usl k).length (usl k) rfl (HOZ.out.alloc _) ⟨wz.heap.size,0,none⟩ 1 1 [.int .i64 k] rfl rfl (World.news_of_block (heap_alloc_new wz _)) (by simp [Value.oneCell']) (by have:=HUL.out; unfold maxLen; omega) (by have:=HUL.out; omega) (by first | omega | (simp; omega)) ?_))
       intro v' w9 hown hgrow _ _
       obtain ⟨A5,c5,rfl,-⟩:=row_slice hown
       have hb9 : Below w.heap.size w w9:=(HBZ.out.alloc HBZ.out.size _).grown hgrow (by simp; omega) (fun i hi => by have:=(HOZ.out.lt i hi).1; omega)
       have hk9 : Blk w9 w.heap.size _ _:=(hgrow.block _ (by simp; omega) (fun e => by have:=(HOZ.out.lt _ e.symm).1; omega)).trans (HKZ.out.alloc _)
       have HB9:=Lib.hid hb9
       have HK9:=Lib.hid hk9
       have HO9:=Lib.hid hown
       clear hown hgrow hb9 hk9
       go_wp2_with fail
       exact ⟨⟨k + 1,by go_num,by omega,HB9.out,HK9.out,Lib.hid ⟨A5,c5,by rw [HU2.out (by simp)]; simp,by rw [HU2.out (by simp)]; have:=HO9.out; simpa using this⟩⟩,by simp [intOf]; omega⟩
    ·refine stepAt_of _ rfl rfl (fun K hK => ?_)
     go_simp
     have KP:=Lib.hid (show Blk (wx1.alloc (.cells #[.string q.dof,.string q.name,.int .i64 q.num,.slice q.at_ q.args.length q.cap] 28)) wx1.heap.size #[.string q.dof,.string q.name,.int .i64 q.num,.slice q.at_ q.args.length q.cap] 28 from Blk.new wx1 _ _)
     have HS2:=Lib.hid (show Below wx1.heap.size wx1 (wx1.alloc (.cells #[.string q.dof,.string q.name,.int .i64 q.num,.slice q.at_ q.args.length q.cap] 28)) from (Below.refl _ _).alloc (Nat.le_refl _) _)
     have RO:=Lib.hid (RO.out.keep HS2.out)
     have HZ2:=Lib.hid (HZ1.out.trans (HS2.out.mono HZ1.out.size))
     refine hK _ _ ⟨HSF.out _ HZ2.out, ?_⟩
     clear hK K
     generalize (wx1.alloc (.cells #[.string q.dof,.string q.name,.int .i64 q.num,.slice q.at_ q.args.length q.cap] 28)) = wx2 at KP HS2 HZ2 RO ⊢
     refine wpOrd_one ?_
     ·refine stepAt_of _ rfl rfl (fun K hK => ?_)
      go_simp
      have KT:=Lib.hid (show Blk (wx2.alloc (.cells #[.string t.dof,.string t.name,.slice t.at_ t.args.length t.cap] 25)) wx2.heap.size #[.string t.dof,.string t.name,.slice t.at_ t.args.length t.cap] 25 from Blk.new wx2 _ _)
      have HS3:=Lib.hid (show Below wx2.heap.size wx2 (wx2.alloc (.cells #[.string t.dof,.string t.name,.slice t.at_ t.args.length t.cap] 25)) from (Below.refl _ _).alloc (Nat.le_refl _) _)
      have RO:=Lib.hid (RO.out.keep HS3.out)
      have KP:=Lib.hid (KP.out.below HS3.out KP.out.lt)
      have HZ3:=Lib.hid (HZ2.out.trans (HS3.out.mono HZ2.out.size))
      refine hK _ _ ⟨HSF.out _ HZ3.out, ?_⟩
      clear hK K
      generalize (wx2.alloc (.cells #[.string t.dof,.string t.name,.slice t.at_ t.args.length t.cap] 25)) = wx3 at KT HS3 HZ3 RO KP ⊢
      refine wpOrd_one ?_
      refine stepAt_of _ rfl rfl (fun K hK => ?_)
      go_simp
      refine Calls.mono (HSEEK.out _ _ _ _ _ (HBW.out.trans (HZ3.out.mono HBW.out.size)) KT.out KP.out RO.out) ?_
      rintro e wz ⟨hbz,vz,rfl⟩
      have HZZ:=Lib.hid (HZ3.out.trans (hbz.mono HZ3.out.size))
      refine hK _ _ ⟨HSF.out _ HZZ.out, ?_⟩
      clear hK K hbz
      refine wpOrd_read _ ?_ rfl (by rfl) (fun W hW => ?_) ?_
      rotate_left
      ·unfold P7 at hW
       go_simp
       try with_reducible rfl
      simp only [Act.put,List.setIfInBounds_toArray,List.set_cons_zero,List.set_cons_succ]
      refine wpOrd_read _ ?_ rfl (by rfl) (fun W hW => ?_) ?_
      rotate_left
      ·unfold P7 at hW
       go_simp
       try with_reducible rfl
      simp only [Act.put,List.setIfInBounds_toArray,List.set_cons_zero,List.set_cons_succ]
      refine wpOrd_read _ ?_ rfl (by rfl) (fun W hW => ?_) ?_
      rotate_left
      ·unfold P7 at hW
       go_simp
       try with_reducible rfl
      simp only [Act.put,List.setIfInBounds_toArray,List.set_cons_zero,List.set_cons_succ]
      iterate 2
       refine wpOrd_one ?_
       refine stepAt_of _ rfl rfl (fun K hK => ?_)
       go_simp
       refine hK _ _ ⟨HSF.out _ HZZ.out, ?_⟩
       clear hK K
      refine wpOrd_done ?_
      refine NoPanic.normal ?_
      have HBZ:=Lib.hid (HBW.out.trans (HZZ.out.mono HBW.out.size))
      have HKZ:=Lib.hid (HKW.out.below HZZ.out HKW.out.lt)
      have HOZ:=Lib.hid (row_stays HOW.out fun i hi => HZZ.out.block i (HOW.out.lt i hi).2)
      have hzs:=HKZ.out.lt
      cases z
      case true =>
       go_wp2_with fail
       exact ⟨⟨k + 1,by go_num,by omega,HBZ.out,HKZ.out,Lib.hid ⟨A',c',by rw [HU1.out (by simp)],by rw [HU1.out (by simp)]; exact HOZ.out⟩⟩,by simp [intOf]; omega⟩
      case false =>
       go_wp2_with (at_builtin; go_must (refine wpList_append_own_at _ rfl (.tmp 47) (.tmp 49) 41 rfl (w.heap.size + 1) 3 i0 _ 1 8 Tryz.underlying41 hi hz0 hz1 hz2 rfl (by decide) (.slice A' (usl k).length c') (usl k).length (usl k) rfl (HOZ.out.alloc _) ⟨wz.heap.size,0,none⟩ 1 1 [.int .i64 k] rfl rfl (World.news_of_block (heap_alloc_new wz _)) (by simp [Value.oneCell']) (by have:=HUL.out; unfold maxLen; omega) (by have:=HUL.out; omega) (by first | omega | (simp; omega)) ?_))
       intro v' w9 hown hgrow _ _
       obtain ⟨A5,c5,rfl,-⟩:=row_slice hown
       have hb9 : Below w.heap.size w w9:=(HBZ.out.alloc HBZ.out.size _).grown hgrow (by simp; omega) (fun i hi => by have:=(HOZ.out.lt i hi).1; omega)
       have hk9 : Blk w9 w.heap.size _ _:=(hgrow.block _ (by simp; omega) (fun e => by have:=(HOZ.out.lt _ e.symm).1; omega)).trans (HKZ.out.alloc _)
       have HB9:=Lib.hid hb9
       have HK9:=Lib.hid hk9
       have HO9:=Lib.hid hown
       clear hown hgrow hb9 hk9
       go_wp2_with fail
       exact ⟨⟨k + 1,by go_num,by omega,HB9.out,HK9.out,Lib.hid ⟨A5,c5,by rw [HU2.out (by simp)]; simp,by rw [HU2.out (by simp)]; have:=HO9.out; simpa using this⟩⟩,by simp [intOf]; omega⟩
   ·refine stepAt_of _ rfl rfl (fun K hK => ?_)
    go_simp
    have KP:=Lib.hid (show Blk ((w0.alloc (.cells #[.string q.dof,.string q.name,.int .i64 q.num,.slice q.at_ q.args.length q.cap] 28)).drew) w0.heap.size #[.string q.dof,.string q.name,.int .i64 q.num,.slice q.at_ q.args.length q.cap] 28 from Blk.new w0 _ _)
    have HS1:=Lib.hid (show Below w0.heap.size w0 ((w0.alloc (.cells #[.string q.dof,.string q.name,.int .i64 q.num,.slice q.at_ q.args.length q.cap] 28)).drew) from ((Below.refl _ _).alloc (Nat.le_refl _) _).drew)
    have HZ1:=Lib.hid (HZ0.out.trans (HS1.out.mono HZ0.out.size))
    refine hK _ _ ⟨HSF.out _ HZ1.out, ?_⟩
    clear hK K
    generalize ((w0.alloc (.cells #[.string q.dof,.string q.name,.int .i64 q.num,.slice q.at_ q.args.length q.cap] 28)).drew) = wx1 at KP HS1 HZ1 ⊢
    refine wpOrd_two ?_ ?_
    ·refine stepAt_of _ rfl rfl (fun K hK => ?_)
     go_simp
     have KT:=Lib.hid (show Blk (wx1.alloc (.cells #[.string t.dof,.string t.name,.slice t.at_ t.args.length t.cap] 25)) wx1.heap.size #[.string t.dof,.string t.name,.slice t.at_ t.args.length t.cap] 25 from Blk.new wx1 _ _)
     have HS2:=Lib.hid (show Below wx1.heap.size wx1 (wx1.alloc (.cells #[.string t.dof,.string t.name,.slice t.at_ t.args.length t.cap] 25)) from (Below.refl _ _).alloc (Nat.le_refl _) _)
     have KP:=Lib.hid (KP.out.below HS2.out KP.out.lt)
     have HZ2:=Lib.hid (HZ1.out.trans (HS2.out.mono HZ1.out.size))
     refine hK _ _ ⟨HSF.out _ HZ2.out, ?_⟩
     clear hK K
     generalize (wx1.alloc (.cells #[.string t.dof,.string t.name,.slice t.at_ t.args.length t.cap] 25)) = wx2 at KT HS2 HZ2 KP ⊢
     refine wpOrd_one ?_
     ·refine stepAt_of _ rfl rfl (fun K hK => ?_)
      go_simp
      have HD:=Lib.hid (HBW.out.trans (HZ2.out.mono HBW.out.size))
      refine Calls.mono (HROWS.out _ HD.out) ?_
      rintro e wx3 ⟨hb9,v9,rfl,hro⟩
      obtain ⟨rs9,A9,c9,hr1,rfl,hr2,hr3⟩:=hro
      have RO : Hid (RowsO w.heap.size wx3 (.slice A9 k c9) (ps.take k) k):=Lib.hid ⟨rs9,A9,c9,hr1,rfl,own_wide hr2 HD.out.size,hr3⟩
      have HS3:=Lib.hid (show Below wx2.heap.size wx2 wx3 from hb9)
      have KP:=Lib.hid (KP.out.below HS3.out KP.out.lt)
      have KT:=Lib.hid (KT.out.below HS3.out KT.out.lt)
      have HZ3:=Lib.hid (HZ2.out.trans (HS3.out.mono HZ2.out.size))
      refine hK _ _ ⟨HSF.out _ HZ3.out, ?_⟩
      clear hK K hb9 hr1 hr2 hr3
      refine wpOrd_one ?_
      refine stepAt_of _ rfl rfl (fun K hK => ?_)
      go_simp
      refine Calls.mono (HSEEK.out _ _ _ _ _ (HBW.out.trans (HZ3.out.mono HBW.out.size)) KT.out KP.out RO.out) ?_
      rintro e wz ⟨hbz,vz,rfl⟩
      have HZZ:=Lib.hid (HZ3.out.trans (hbz.mono HZ3.out.size))
      refine hK _ _ ⟨HSF.out _ HZZ.out, ?_⟩
      clear hK K hbz
      refine wpOrd_read _ ?_ rfl (by rfl) (fun W hW => ?_) ?_
      rotate_left
      ·unfold P7 at hW
       go_simp
       try with_reducible rfl
      simp only [Act.put,List.setIfInBounds_toArray,List.set_cons_zero,List.set_cons_succ]
      refine wpOrd_read _ ?_ rfl (by rfl) (fun W hW => ?_) ?_
      rotate_left
      ·unfold P7 at hW
       go_simp
       try with_reducible rfl
      simp only [Act.put,List.setIfInBounds_toArray,List.set_cons_zero,List.set_cons_succ]
      refine wpOrd_read _ ?_ rfl (by rfl) (fun W hW => ?_) ?_
      rotate_left
      ·unfold P7 at hW
       go_simp
       try with_reducible rfl
      simp only [Act.put,List.setIfInBounds_toArray,List.set_cons_zero,List.set_cons_succ]
      iterate 2
       refine wpOrd_one ?_
       refine stepAt_of _ rfl rfl (fun K hK => ?_)
       go_simp
       refine hK _ _ ⟨HSF.out _ HZZ.out, ?_⟩
       clear hK K
      refine wpOrd_done ?_
      refine NoPanic.normal ?_
      have HBZ:=Lib.hid (HBW.out.trans (HZZ.out.mono HBW.out.size))
      have HKZ:=Lib.hid (HKW.out.below HZZ.out HKW.out.lt)
      have HOZ:=Lib.hid (row_stays HOW.out fun i hi => HZZ.out.block i (HOW.out.lt i hi).2)
      have hzs:=HKZ.out.lt
      cases z
      case true =>
       go_wp2_with fail
       exact ⟨⟨k + 1,by go_num,by omega,HBZ.out,HKZ.out,Lib.hid ⟨A',c',by rw [HU1.out (by simp)],by rw [HU1.out (by simp)]; exact HOZ.out⟩⟩,by simp [intOf]; omega⟩
      case false =>
       go_wp2_with (at_builtin; go_must (refine wpList_append_own_at _ rfl (.tmp 47) (.tmp 49) 41 rfl (w.heap.size + 1) 3 i0 _ 1 8 Tryz.underlying41 hi hz0 hz1 hz2 rfl (by decide) (.slice A' (usl k).length c') (usl k).length (usl k) rfl (HOZ.out.alloc _) ⟨wz.heap.size,0,none⟩ 1 1 [.int .i64 k] rfl rfl (World.news_of_block (heap_alloc_new wz _)) (by simp [Value.oneCell']) (by have:=HUL.out; unfold maxLen; omega) (by have:=HUL.out; omega) (by first | omega | (simp; omega)) ?_))
       intro v' w9 hown hgrow _ _
       obtain ⟨A5,c5,rfl,-⟩:=row_slice hown
       have hb9 : Below w.heap.size w w9:=(HBZ.out.alloc HBZ.out.size _).grown hgrow (by simp; omega) (fun i hi => by have:=(HOZ.out.lt i hi).1; omega)
       have hk9 : Blk w9 w.heap.size _ _:=(hgrow.block _ (by simp; omega) (fun e => by have:=(HOZ.out.lt _ e.symm).1; omega)).trans (HKZ.out.alloc _)
       have HB9:=Lib.hid hb9
       have HK9:=Lib.hid hk9
       have HO9:=Lib.hid hown
       clear hown hgrow hb9 hk9
       go_wp2_with fail
       exact ⟨⟨k + 1,by go_num,by omega,HB9.out,HK9.out,Lib.hid ⟨A5,c5,by rw [HU2.out (by simp)]; simp,by rw [HU2.out (by simp)]; have:=HO9.out; simpa using this⟩⟩,by simp [intOf]; omega⟩
    ·refine stepAt_of _ rfl rfl (fun K hK => ?_)
     go_simp
     have HD:=Lib.hid (HBW.out.trans (HZ1.out.mono HBW.out.size))
     refine Calls.mono (HROWS.out _ HD.out) ?_
     rintro e wx2 ⟨hb9,v9,rfl,hro⟩
     obtain ⟨rs9,A9,c9,hr1,rfl,hr2,hr3⟩:=hro
     have RO : Hid (RowsO w.heap.size wx2 (.slice A9 k c9) (ps.take k) k):=Lib.hid ⟨rs9,A9,c9,hr1,rfl,own_wide hr2 HD.out.size,hr3⟩
     have HS2:=Lib.hid (show Below wx1.heap.size wx1 wx2 from hb9)
     have KP:=Lib.hid (KP.out.below HS2.out KP.out.lt)
     have HZ2:=Lib.hid (HZ1.out.trans (HS2.out.mono HZ1.out.size))
     refine hK _ _ ⟨HSF.out _ HZ2.out, ?_⟩
     clear hK K hb9 hr1 hr2 hr3
     refine wpOrd_one ?_
     ·refine stepAt_of _ rfl rfl (fun K hK => ?_)
      go_simp
      have KT:=Lib.hid (show Blk (wx2.alloc (.cells #[.string t.dof,.string t.name,.slice t.at_ t.args.length t.cap] 25)) wx2.heap.size #[.string t.dof,.string t.name,.slice t.at_ t.args.length t.cap] 25 from Blk.new wx2 _ _)
      have HS3:=Lib.hid (show Below wx2.heap.size wx2 (wx2.alloc (.cells #[.string t.dof,.string t.name,.slice t.at_ t.args.length t.cap] 25)) from (Below.refl _ _).alloc (Nat.le_refl _) _)
      have KP:=Lib.hid (KP.out.below HS3.out KP.out.lt)
      have RO:=Lib.hid (RO.out.keep HS3.out)
      have HZ3:=Lib.hid (HZ2.out.trans (HS3.out.mono HZ2.out.size))
      refine hK _ _ ⟨HSF.out _ HZ3.out, ?_⟩
      clear hK K
      generalize (wx2.alloc (.cells #[.string t.dof,.string t.name,.slice t.at_ t.args.length t.cap] 25)) = wx3 at KT HS3 HZ3 KP RO ⊢
      refine wpOrd_one ?_
      refine stepAt_of _ rfl rfl (fun K hK => ?_)
      go_simp
      refine Calls.mono (HSEEK.out _ _ _ _ _ (HBW.out.trans (HZ3.out.mono HBW.out.size)) KT.out KP.out RO.out) ?_
      rintro e wz ⟨hbz,vz,rfl⟩
      have HZZ:=Lib.hid (HZ3.out.trans (hbz.mono HZ3.out.size))
      refine hK _ _ ⟨HSF.out _ HZZ.out, ?_⟩
      clear hK K hbz
      refine wpOrd_read _ ?_ rfl (by rfl) (fun W hW => ?_) ?_
      rotate_left
      ·unfold P7 at hW
       go_simp
       try with_reducible rfl
      simp only [Act.put,List.setIfInBounds_toArray,List.set_cons_zero,List.set_cons_succ]
      refine wpOrd_read _ ?_ rfl (by rfl) (fun W hW => ?_) ?_
      rotate_left
      ·unfold P7 at hW
       go_simp
       try with_reducible rfl
      simp only [Act.put,List.setIfInBounds_toArray,List.set_cons_zero,List.set_cons_succ]
      refine wpOrd_read _ ?_ rfl (by rfl) (fun W hW => ?_) ?_
      rotate_left
      ·unfold P7 at hW
       go_simp
       try with_reducible rfl
      simp only [Act.put,List.setIfInBounds_toArray,List.set_cons_zero,List.set_cons_succ]
      iterate 2
       refine wpOrd_one ?_
       refine stepAt_of _ rfl rfl (fun K hK => ?_)
       go_simp
       refine hK _ _ ⟨HSF.out _ HZZ.out, ?_⟩
       clear hK K
      refine wpOrd_done ?_
      refine NoPanic.normal ?_
      have HBZ:=Lib.hid (HBW.out.trans (HZZ.out.mono HBW.out.size))
      have HKZ:=Lib.hid (HKW.out.below HZZ.out HKW.out.lt)
      have HOZ:=Lib.hid (row_stays HOW.out fun i hi => HZZ.out.block i (HOW.out.lt i hi).2)
      have hzs:=HKZ.out.lt
      cases z
      case true =>
       go_wp2_with fail
       exact ⟨⟨k + 1,by go_num,by omega,HBZ.out,HKZ.out,Lib.hid ⟨A',c',by rw [HU1.out (by simp)],by rw [HU1.out (by simp)]; exact HOZ.out⟩⟩,by simp [intOf]; omega⟩
      case false =>
       go_wp2_with (at_builtin; go_must (refine wpList_append_own_at _ rfl (.tmp 47) (.tmp 49) 41 rfl (w.heap.size + 1) 3 i0 _ 1 8 Tryz.underlying41 hi hz0 hz1 hz2 rfl (by decide) (.slice A' (usl k).length c') (usl k).length (usl k) rfl (HOZ.out.alloc _) ⟨wz.heap.size,0,none⟩ 1 1 [.int .i64 k] rfl rfl (World.news_of_block (heap_alloc_new wz _)) (by simp [Value.oneCell']) (by have:=HUL.out; unfold maxLen; omega) (by have:=HUL.out; omega) (by first | omega | (simp; omega)) ?_))
       intro v' w9 hown hgrow _ _
       obtain ⟨A5,c5,rfl,-⟩:=row_slice hown
       have hb9 : Below w.heap.size w w9:=(HBZ.out.alloc HBZ.out.size _).grown hgrow (by simp; omega) (fun i hi => by have:=(HOZ.out.lt i hi).1; omega)
       have hk9 : Blk w9 w.heap.size _ _:=(hgrow.block _ (by simp; omega) (fun e => by have:=(HOZ.out.lt _ e.symm).1; omega)).trans (HKZ.out.alloc _)
       have HB9:=Lib.hid hb9
       have HK9:=Lib.hid hk9
       have HO9:=Lib.hid hown
       clear hown hgrow hb9 hk9
       go_wp2_with fail
       exact ⟨⟨k + 1,by go_num,by omega,HB9.out,HK9.out,Lib.hid ⟨A5,c5,by rw [HU2.out (by simp)]; simp,by rw [HU2.out (by simp)]; have:=HO9.out; simpa using this⟩⟩,by simp [intOf]; omega⟩
  ·have hk2 : k = ps.length:=by omega
   subst hk2
   go_wp2_with fail
   exact bodyPost_ret (by simp [results,Tryz.results18,go_sem]) rfl ⟨HB.out,_,rfl,A',c',rfl,own_wide HOWN.out (by omega)⟩
end Go.Proofs.YtjeggkfgdhepaaaGreatDoor

namespace Go.Proofs.YtjeggkfgdhepaaaGreatDoor
open Go.RowKit
open Go.Proofs
def intTy : Ty:=.mk ⟨#[105,110,116]⟩ ⟨#[]⟩ none 0 []
def varX : Pt:=.mk ⟨#[118,97,114]⟩ ⟨#[120]⟩ 0 none 0 []
theorem int_there : intTy.there [] = true:=by
 unfold Ty.there Ty.valid intTy
 rw [Ty.well_mk,Ty.known_mk,Ty.size_mk]
 decide +kernel
theorem any_patB : anyPt.patB = true:=by
 unfold Pt.patB Pt.okS anyPt
 rw [Pt.wellB_mk,Pt.binds_mk,Pt.size_mk]
 decide +kernel
theorem varX_patB : varX.patB = true:=by
 unfold Pt.patB Pt.okS varX
 rw [Pt.wellB_mk,Pt.binds_mk,Pt.size_mk]
 decide +kernel
theorem any_fit (look : Look) (t : Ty) : anyPt.fit look t = true:=by unfold anyPt; rw [Pt.fit_mk,if_pos (by decide +kernel)]
theorem varX_fit (look : Look) (t : Ty) : varX.fit look t = true:=by unfold varX; rw [Pt.fit_mk,if_pos (by decide +kernel)]
theorem world_nil : worldB [] = true:=by decide +kernel
theorem dTo_nil : dTo [] ([] : List Dt).length = []:=rfl
theorem awake_err : askedErr [] intTy [anyPt,varX] = 0:=by
 have hf : [anyPt,varX].all (fitB [] intTy) = true:=by
  simp only [List.all_cons,List.all_nil,fitB,askB,world_nil,dTo_nil,int_there,any_patB,varX_patB,any_fit,varX_fit]
  rfl
 have hn : nodesTo [anyPt,varX] [anyPt,varX].length = 2:=by
  unfold nodesTo
  have h1 : anyPt.size.nodes = 1:=by unfold anyPt; rw [Pt.size_mk]; rfl
  have h2 : varX.size.nodes = 1:=by unfold varX; rw [Pt.size_mk]; rfl
  simp only [List.length_cons,List.length_nil,List.take_succ_cons,List.take_zero,List.foldl_cons,List.foldl_nil,h1,h2]
  decide +kernel
 unfold askedErr
 rw [hf,world_nil,dTo_nil,int_there,hn]
 decide +kernel
theorem wild_any (w : World) : Calls Tryz.prog 33 #[] w fun e w' => e = .returned (.agg #[.string ⟨#[97,110,121]⟩,.string ⟨#[]⟩,.int .i64 0,.slice none 0 0]) ∧ Below w.heap.size w w':=by
 go_enter Tryz.func33,Tryz.ntmps33
 go_wp2_with fail
 exact bodyPost_ret (v:=.agg #[.string ⟨#[97,110,121]⟩,.string ⟨#[]⟩,.int .i64 0,.slice none 0 0]) (by simp [results,Tryz.results33,go_sem]) rfl ⟨rfl,(Below.refl w.heap.size w).alloc (Nat.le_refl _) _⟩
theorem row_pts2 {B k : Nat} {W : World} {T : TypeId} (hb : Blk W k #[.string ⟨#[97,110,121]⟩,.string ⟨#[]⟩,.int .i64 0,.slice none 0 0,.string ⟨#[118,97,114]⟩,.string ⟨#[120]⟩,.int .i64 0,.slice none 0 0] T) (hk : k < B) : RowAt B W 4 (some ⟨k,0,none⟩) ([anyPt,varX].map Pt.cells):=by
 refine fun _ => ⟨k,0,rfl,hk,fun i x hi j v hj => ?_⟩
 rw [hb.cell]
 rcases i with _ | _ | i
 ·simp only [List.map_cons,List.getElem?_cons_zero,Option.some.injEq] at hi
  subst hi
  rcases j with _ | _ | _ | _ | j
  ·exact hj
  ·exact hj
  ·exact hj
  ·exact hj
  ·simp [Pt.cells] at hj
 ·simp only [List.map_cons,List.getElem?_cons_zero,List.getElem?_cons_succ,Option.some.injEq] at hi
  subst hi
  rcases j with _ | _ | _ | _ | j
  ·exact hj
  ·exact hj
  ·exact hj
  ·exact hj
  ·simp [Pt.cells] at hj
 ·simp at hi
theorem any_in (B : Nat) (w : World) : anyPt.In B w:=by unfold anyPt; rw [Pt.In_mk]; exact ⟨by decide,by decide,by decide,by decide,⟨by decide,fun _ => rfl⟩,fun h => absurd h (by simp),fun p hp => absurd hp (by simp)⟩
theorem varX_in (B : Nat) (w : World) : varX.In B w:=by unfold varX; rw [Pt.In_mk]; exact ⟨by decide,by decide,by decide,by decide,⟨by decide,fun _ => rfl⟩,fun h => absurd h (by simp),fun p hp => absurd hp (by simp)⟩
theorem intTy_in (B : Nat) (w : World) : intTy.In B w:=by unfold intTy; rw [Ty.In_mk]; exact ⟨by decide,by decide,by decide,⟨by decide,fun _ => rfl⟩,fun h => absurd h (by simp),fun p hp => absurd hp (by simp)⟩
set_option maxHeartbeats 2000000 in
theorem awake_any (w : World) (h : Env w) : Calls Tryz.prog 10 #[] w fun e w' => e = .returned (.bool true) ∧ Below w.heap.size w w':=by
 have HU:=Lib.hid (fun (W : World) (k : Nat) (hW : Below w.heap.size w W) (hb : Blk W k #[.string ⟨#[97,110,121]⟩,.string ⟨#[]⟩,.int .i64 0,.slice none 0 0,.string ⟨#[118,97,114]⟩,.string ⟨#[120]⟩,.int .i64 0,.slice none 0 0] 28) =>
  useless_wild intTy (some ⟨k,0,none⟩) [anyPt,varX] 2 W (h.next hW) (intTy_in _ _) ⟨row_pts2 hb hb.lt,fun p hp => by simp only [List.mem_cons,List.not_mem_nil,or_false] at hp; rcases hp with rfl | rfl; exact any_in _ _; exact varX_in _ _,
   fun p hp => by simp only [List.mem_cons,List.not_mem_nil,or_false] at hp; rcases hp with rfl | rfl; (unfold anyPt; rw [Pt.binds_mk]; decide +kernel); (unfold varX; rw [Pt.binds_mk]; decide +kernel),by simp⟩ (by decide +kernel) (fun p hp => by simp only [List.mem_cons,List.not_mem_nil,or_false] at hp; rcases hp with rfl | rfl <;> decide +kernel) (by simp) awake_err (by simp))
 clear h
 unfold intTy Ty.val at HU
 simp only [Ty.dof,Ty.name,Ty.at_,Ty.cap,Ty.args,List.length_cons,List.length_nil] at HU
 go_enter Tryz.func10,Tryz.ntmps10
 go_wp2_with fail
 refine Calls.mono (wild_any _) ?_
 rintro e w1 ⟨rfl,hb1⟩
 have HB1:=Lib.hid hb1
 have HB2:=Lib.hid (hb1.alloc hb1.size (.cells #[.string ⟨#[97,110,121]⟩,.string ⟨#[]⟩,.int .i64 0,.slice none 0 0,.string ⟨#[118,97,114]⟩,.string ⟨#[120]⟩,.int .i64 0,.slice none 0 0] 28))
 have HK:=Lib.hid (Blk.new w1 #[.string ⟨#[97,110,121]⟩,.string ⟨#[]⟩,.int .i64 0,.slice none 0 0,.string ⟨#[118,97,114]⟩,.string ⟨#[120]⟩,.int .i64 0,.slice none 0 0] 28)
 clear hb1
 go_wp2_with fail
 refine Calls.mono (HU.out _ _ HB2.out HK.out) ?_
 rintro e w3 ⟨hb3,v3,rfl,A3,c3,rfl,hown⟩
 obtain ⟨g,rfl,hc,-⟩:=row_cell hown 0 (.int .i64 1) rfl
 have HB3:=Lib.hid (HB2.out.trans (hb3.mono HB2.out.size))
 have gl:=(hown.lt g rfl).2
 clear hb3 hown
 go_wp2_with fail
 go_ret
 exact ⟨rfl,HB3.out⟩
end Go.Proofs.YtjeggkfgdhepaaaGreatDoor

namespace Go.Proofs.YtjeggkfgdhepaaaGreatDoor
open Go.RowKit Go.ChangeShapes Go.WideShapes Go.Deep
open Go.Proofs
abbrev blk {H : Type} (d : DataW H) : Nat:=Rows.uptoBulk d
abbrev blkAll {H : Type} (l : List (DataW H)) : Nat:=Rows.uptoBulkAll l
theorem blk_pos {H : Type} (d : DataW H) : 1 ≤ blk d:=by
 cases d with
 | lit l => cases l <;> simp [blk,Rows.uptoBulk]
 | nil => simp [blk,Rows.uptoBulk]
 | ptr d => simp [blk,Rows.uptoBulk]
 | slice elems spare => simp [blk,Rows.uptoBulk]
 | agg parts => simp [blk,Rows.uptoBulk]
 | iface t d => simp [blk,Rows.uptoBulk]
 | map entries => simp [blk,Rows.uptoBulk]
 | held h => simp [blk,Rows.uptoBulk]
theorem blk_part {H : Type} {d : DataW H} {l : List (DataW H)} (h : d ∈ l) : blk d ≤ blkAll l:=by
 unfold blk blkAll
 induction l with
 | nil => cases h
 | cons x r ih =>
  simp only [Rows.uptoBulkAll]
  cases List.mem_cons.1 h with
  | inl e => subst e; omega
  | inr e => have:=ih e; omega
theorem blk_len {H : Type} (l : List (DataW H)) : l.length ≤ blkAll l:=by
 unfold blkAll
 induction l with
 | nil => simp [Rows.uptoBulkAll]
 | cons x r ih => have:=blk_pos x; unfold blk at this; simp only [Rows.uptoBulkAll,List.length_cons]; omega
theorem blk_slice {H : Type} (es sp : List (DataW H)) : blk (.slice es sp) = blkAll es + blkAll sp + 1:=by simp [blk,blkAll,Rows.uptoBulk]
theorem blk_agg {H : Type} (es : List (DataW H)) : blk (.agg es) = blkAll es + 1:=by simp [blk,blkAll,Rows.uptoBulk]
theorem blk_string {H : Type} (s : ByteArray) : blk (DataW.lit (H:=H) (.string s.data.toList)) = s.size + 1:=by
 have e : s.data.toList.length = s.size:=by rw [Array.length_toList]; rfl
 simp only [blk,Rows.uptoBulk,e]
theorem blk_sum {H : Type} {α : Type} (f : α → Nat) : ∀ (l : List α) (ds : List (DataW H)),ds.length = l.length → (∀ (i : Nat) (a : α),l[i]? = some a → ∃ d,ds[i]? = some d ∧ f a ≤ blk d) → (l.map f).sum ≤ blkAll ds
 | [],ds,_,_ => by simp
 | a :: l,[],h,_ => by simp at h
 | a :: l,d :: ds,h,hi => by
  have h0:=hi 0 a rfl
  obtain ⟨d',hd,hf⟩:=h0
  simp only [List.getElem?_cons_zero,Option.some.injEq] at hd
  subst hd
  have:=blk_sum f l ds (by simpa using h) (fun i b hb => hi (i + 1) b hb)
  unfold blk at hf
  simp only [List.map_cons,List.sum_cons,blkAll,Rows.uptoBulkAll] at *
  omega
def Ty.count : Ty → Nat
 | .mk _ _ _ _ l => 1 + (l.map fun t => t.count).sum
def Pt.count : Pt → Nat
 | .mk _ _ _ _ _ l => 1 + (l.map fun t => t.count).sum
theorem Ty.count_mk (d n : ByteArray) (a : Option Addr) (c : Nat) (l : List Ty) : (Ty.mk d n a c l).count = 1 + (l.map Ty.count).sum:=by rw [Ty.count]
theorem Pt.count_mk (d s : ByteArray) (n : Int) (a : Option Addr) (c : Nat) (l : List Pt) : (Pt.mk d s n a c l).count = 1 + (l.map Pt.count).sum:=by rw [Pt.count]
theorem Pt.binds_count (p : Pt) : p.binds.length ≤ p.count:=by
 refine Pt.induct (p:=fun p => p.binds.length ≤ p.count) (fun d s n a c l ih => ?_) p
 rw [Pt.binds_mk,Pt.count_mk,List.length_append]
 have h1 : (if isDo [118,97,114] d then [s] else []).length ≤ 1:=by split <;> simp
 have h2 : (l.flatMap Pt.binds).length ≤ (l.map Pt.count).sum:=by
  clear h1
  induction l with
  | nil => simp
  | cons q l ih2 =>
   have:=ih q (by simp)
   have:=ih2 (fun t ht => ih t (by simp [ht]))
   simp only [List.flatMap_cons,List.length_append,List.map_cons,List.sum_cons]
   omega
 omega
def Pt.capB : Pt → Prop
 | .mk _ _ _ _ c l => c ≤ 9223372036854775807 ∧ ∀ p ∈ l.map (fun t => t.capB),p
def Ty.capB : Ty → Prop
 | .mk _ _ _ c l => c ≤ 9223372036854775807 ∧ ∀ p ∈ l.map (fun t => t.capB),p
theorem Pt.capB_mk {d n : ByteArray} {m : Int} {A : Option Addr} {c : Nat} {l : List Pt} : (Pt.mk d n m A c l).capB ↔ c ≤ 9223372036854775807 ∧ ∀ t ∈ l,t.capB:=by
 rw [Pt.capB]
 simp only [List.mem_map,forall_exists_index,and_imp,forall_apply_eq_imp_iff₂]
theorem Ty.capB_mk {d n : ByteArray} {A : Option Addr} {c : Nat} {l : List Ty} : (Ty.mk d n A c l).capB ↔ c ≤ 9223372036854775807 ∧ ∀ t ∈ l,t.capB:=by
 rw [Ty.capB]
 simp only [List.mem_map,forall_exists_index,and_imp,forall_apply_eq_imp_iff₂]
theorem Pt.capB.top {p : Pt} (h : p.capB) : p.cap ≤ 9223372036854775807 ∧ ∀ q ∈ p.args,q.capB:=by
 obtain ⟨d,n,m,A,c,l⟩:=p
 exact Pt.capB_mk.1 h
theorem Ty.capB.top {p : Ty} (h : p.capB) : p.cap ≤ 9223372036854775807 ∧ ∀ q ∈ p.args,q.capB:=by
 obtain ⟨d,n,A,c,l⟩:=p
 exact Ty.capB_mk.1 h
theorem list_of {α : Type} (n : Nat) (Q : Nat → α → Prop) (h : ∀ i,i < n → ∃ x,Q i x) : ∃ l : List α,l.length = n ∧ ∀ i x,l[i]? = some x → Q i x:=by
 induction n with
 | zero => exact ⟨[],rfl,fun i x hx => by simp at hx⟩
 | succ n ih =>
  obtain ⟨l,hl,hq⟩:=ih (fun i hi => h i (by omega))
  obtain ⟨x,hx⟩:=h n (by omega)
  refine ⟨l ++ [x],by simp [hl],fun i y hy => ?_⟩
  rcases Nat.lt_or_ge i l.length with hi | hi
  ·rw [List.getElem?_append_left hi] at hy; exact hq i y hy
  ·rw [List.getElem?_append_right hi] at hy
   have hi0 : i - l.length = 0:=by have:=(List.getElem?_eq_some_iff.1 hy).1; simp at this; omega
   rw [hi0] at hy
   simp only [List.getElem?_cons_zero,Option.some.injEq] at hy
   subst hy
   have : i = n:=by omega
   subst this
   exact hx
theorem addp (b o k : Nat) : (⟨b,o,none⟩ : Addr).add k = ⟨b,o + k,none⟩:=by unfold Addr.add; split <;> simp_all
section
variable {H : Type} {enc : TypeId × Value → H} {W : World}
theorem open_row {α : Type} {t e : TypeId} {K fuel : Nat} {A : Option Addr} {n cap : Nat} {x : DataW H × List MemPlace} (cells : α → List Value) (Good : α → DataW H → Prop)
  (ht : Tryz.prog.underlying t = some (.slice e)) (hC : Tryz.prog.cellsOf e = K) (hpos : 0 < K)
  (hel : ∀ m cs y,m < fuel → DataW.trod enc Tryz.prog W 0 (fun _ => true) true m e cs = some y → ∃ a,cs = cells a ∧ Good a y.1)
  (h : DataW.trod enc Tryz.prog W 0 (fun _ => true) true fuel t [.slice A n cap] = some x) :
  ∃ l : List α,n = l.length ∧ l.length ≤ cap ∧ (A = none → cap = 0) ∧ RowAt W.heap.size W K A (l.map cells) ∧ cap + 1 ≤ blk x.1 ∧
   ∃ ds,blkAll ds + 1 ≤ blk x.1 ∧ ds.length = l.length ∧ ∀ (i : Nat) (a : α),l[i]? = some a → ∃ d,ds[i]? = some d ∧ Good a d:=by
 rcases DataW.trod_slice ht h with ⟨hcs,rfl⟩ | ⟨a,len,cap',elems,rest,k,rfl,hcs,rfl,-,hl,-,hlen,hi,hr,-⟩
 ·simp only [List.cons.injEq,Value.slice.injEq,and_true] at hcs
  obtain ⟨rfl,rfl,rfl⟩:=hcs
  exact ⟨[],rfl,Nat.le_refl _,fun _ => rfl,fun h0 => by simp at h0,blk_pos _,[],blk_pos _,rfl,fun i a ha => by simp at ha⟩
 ·simp only [List.cons.injEq,Value.slice.injEq,and_true] at hcs
  obtain ⟨rfl,rfl,rfl⟩:=hcs
  obtain ⟨hrl,-⟩:=hr rfl
  have hq : ∀ i,i < n → ∃ b : α,(∃ y,elems[i]? = some y ∧ Good b y.1) ∧ ∃ b0 off,a = ⟨b0,off,none⟩ ∧ b0 < W.heap.size ∧ ∀ j v,(cells b)[j]? = some v → W.cell? ⟨b0,off + i * K + j,none⟩ = some v:=by
   intro i hin
   have hii:=hi i hin
   rw [List.getElem?_eq_getElem (by omega)] at hii
   obtain ⟨cs',hc,ht'⟩:=Option.bind_eq_some_iff.1 hii
   obtain ⟨b,rfl,hg⟩:=hel k cs' _ (by omega) ht'
   obtain ⟨_,hcl,hat⟩:=World.cells?_some hc
   rw [hC] at hcl hat
   have hspot : ∃ b0 off,a = ⟨b0,off,none⟩:=by
    have h00:=hi 0 (by omega)
    rw [List.getElem?_eq_getElem (by omega)] at h00
    obtain ⟨cs0,hc0,-⟩:=Option.bind_eq_some_iff.1 h00
    obtain ⟨_,hcl0,hat0⟩:=World.cells?_some hc0
    rw [hC] at hcl0 hat0
    have h0:=hat0 0 hpos
    rw [List.getElem?_eq_getElem (by omega)] at h0
    obtain ⟨b0,off,spot⟩:=a
    have hs : spot = none:=by have h1:=World.cell?_spot h0; rw [Nat.zero_mul] at h1; exact h1
    exact ⟨b0,off,by rw [hs]⟩
   obtain ⟨b0,off,rfl⟩:=hspot
   have had : ∀ k,(⟨b0,off,none⟩ : Addr).add k = ⟨b0,off + k,none⟩:=addp b0 off
   have had2 : ∀ j,((⟨b0,off,none⟩ : Addr).add (i * K)).add j = ⟨b0,off + i * K + j,none⟩:=fun j => by rw [Go.Deep.add_add,had,Nat.add_assoc]
   have h0:=hat 0 hpos
   rw [List.getElem?_eq_getElem (by omega),had2] at h0
   refine ⟨b,⟨_,List.getElem?_eq_getElem (by omega),hg⟩,b0,off,rfl,World.block_lt_of_cell? W _ h0,fun j v hv => ?_⟩
   have hj : j < K:=by have:=(List.getElem?_eq_some_iff.1 hv).1; omega
   have hh:=hat j hj
   rw [had2] at hh
   rw [hh]
   exact hv
  obtain ⟨l,hll,hQ⟩:=list_of n _ hq
  subst hll
  have hb1:=blk_len (elems.map (·.1))
  have hb2:=blk_len (rest.map (·.1))
  simp only [List.length_map] at hb1 hb2
  refine ⟨l,rfl,hl,fun hA => (by cases hA),fun hpl => ?_,by rw [blk_slice]; omega,elems.map (·.1),by rw [blk_slice]; omega,by simp [hlen],fun i b hb => ?_⟩
  ·simp only [List.length_map] at hpl
   obtain ⟨_,b0,off,rfl,hb0,_⟩:=hQ 0 l[0] (List.getElem?_eq_getElem hpl)
   refine ⟨b0,off,rfl,hb0,fun i y hy j v hv => ?_⟩
   rw [List.getElem?_map] at hy
   obtain ⟨b,hb,rfl⟩:=Option.map_eq_some_iff.1 hy
   obtain ⟨_,b1,off1,he,_,hc⟩:=hQ i b hb
   simp only [Addr.mk.injEq,and_true] at he
   obtain ⟨rfl,rfl⟩:=he
   exact hc j v hv
  ·obtain ⟨⟨y,hy,hg⟩,-⟩:=hQ i b hb
   exact ⟨y.1,by simp [hy],hg⟩
theorem open_fields {t : TypeId} {fs : Array Field} {fuel : Nat} {cs : List Value} {x : DataW H × List MemPlace} (he : Tryz.prog.underlying t = some (.struct fs)) (hone : oneCellFields Tryz.prog fs = true) (hC : Tryz.prog.cellsOf t = fs.size)
  (h : DataW.trod enc Tryz.prog W 0 (fun _ => true) true fuel t cs = some x) :
  ∃ (ys : List (DataW H × List MemPlace)) (n : Nat),n < fuel ∧ x.1 = .agg (ys.map (·.1)) ∧ ys.length = fs.size ∧ cs.length = fs.size ∧
   ∀ (j : Nat) (f : Field),fs[j]? = some f → ∃ (v : Value) (y : DataW H × List MemPlace),cs[j]? = some v ∧ ys[j]? = some y ∧ DataW.trod enc Tryz.prog W 0 (fun _ => true) true n f.type [v] = some y:=by
 obtain ⟨ys,n',rfl,rfl,hlen,hyl,hf⟩:=DataW.trod_struct he h
 rw [hC] at hlen
 refine ⟨ys,n',by omega,rfl,hyl,hlen,fun j f hj => ?_⟩
 obtain ⟨ho,hk⟩:=hone_of hone j f hj
 have hjl : j < fs.size:=(Array.getElem?_eq_some_iff.1 hj).1
 have hv : cs[j]? = some (cs[j]'(by omega)):=List.getElem?_eq_getElem (by omega)
 have h1:=hf j f hj
 rw [ho,hk] at h1
 have hone' : (cs.drop j).take 1 = [cs[j]'(by omega)]:=by
  rw [List.drop_eq_getElem_cons (by omega)]
  rfl
 rw [hone'] at h1
 have hys : ys[j]? = some (ys[j]'(by omega)):=List.getElem?_eq_getElem (by omega)
 exact ⟨_,_,hv,hys,h1.trans hys⟩
theorem four_of {α : Type} {l : List α} (h : l.length = 4) : ∃ a b c d,l = [a,b,c,d]:=by
 match l,h with
 | [a,b,c,d],_ => exact ⟨a,b,c,d,rfl⟩
theorem three_of {α : Type} {l : List α} (h : l.length = 3) : ∃ a b c,l = [a,b,c]:=by
 match l,h with
 | [a,b,c],_ => exact ⟨a,b,c,rfl⟩
theorem two_of {α : Type} {l : List α} (h : l.length = 2) : ∃ a b,l = [a,b]:=by
 match l,h with
 | [a,b],_ => exact ⟨a,b,rfl⟩
theorem int_wf {n : Int} (h : (Lit.int .i64 n).wf = true) : -9223372036854775808 ≤ n ∧ n ≤ 9223372036854775807:=by
 simpa [Lit.wf,IntKind.min,IntKind.max,IntKind.signed,IntKind.bits] using h
def GoodP (W : World) {H : Type} (p : Pt) (d : DataW H) : Prop:=blk d ≤ 1048576 → p.In W.heap.size W ∧ p.count ≤ blk d ∧ p.capB
def GoodT (W : World) {H : Type} (p : Ty) (d : DataW H) : Prop:=blk d ≤ 1048576 → p.In W.heap.size W ∧ p.count ≤ blk d ∧ p.capB
theorem open_slice_val {t e : TypeId} {fuel : Nat} {v : Value} {x : DataW H × List MemPlace} (ht : Tryz.prog.underlying t = some (.slice e)) (h : DataW.trod enc Tryz.prog W 0 (fun _ => true) true fuel t [v] = some x) : ∃ A n c,v = .slice A n c:=by
 rcases DataW.trod_slice ht h with ⟨hcs,-⟩ | ⟨a,len,cap',elems,rest,k,rfl,hcs,-⟩
 ·simp only [List.cons.injEq,and_true] at hcs
  exact ⟨_,_,_,hcs⟩
 ·simp only [List.cons.injEq,and_true] at hcs
  exact ⟨_,_,_,hcs⟩
theorem open_pt : ∀ (fuel : Nat) (cs : List Value) (x : DataW H × List MemPlace),DataW.trod enc Tryz.prog W 0 (fun _ => true) true fuel 28 cs = some x → ∃ p : Pt,cs = p.cells ∧ GoodP W p x.1:=by
 intro fuel
 induction fuel using Nat.strongRecOn with
 | _ fuel ih =>
  intro cs x h
  obtain ⟨ys,n,hn,hx,hyl,hcl,hf⟩:=open_fields Tryz.underlying28 (by kernel_rfl) (by kernel_rfl) h
  obtain ⟨y0,y1,y2,y3,rfl⟩:=four_of hyl
  obtain ⟨c0,c1,c2,c3,rfl⟩:=four_of hcl
  obtain ⟨_,_,h0,g0,t0⟩:=hf 0 _ rfl
  obtain ⟨_,_,h1,g1,t1⟩:=hf 1 _ rfl
  obtain ⟨_,_,h2,g2,t2⟩:=hf 2 _ rfl
  obtain ⟨_,_,h3,g3,t3⟩:=hf 3 _ rfl
  cases h0; cases h1; cases h2; cases h3; cases g0; cases g1; cases g2; cases g3
  obtain ⟨s0,e0,z0,-⟩:=DataW.trod_string Tryz.underlying9 t0
  obtain ⟨s1,e1,z1,-⟩:=DataW.trod_string Tryz.underlying9 t1
  obtain ⟨s2,e2,z2,hw⟩:=DataW.trod_int Tryz.underlying3 t2
  simp only [List.cons.injEq,and_true] at e0 e1 e2
  subst e0 e1 e2 z0 z1 z2
  obtain ⟨A,m,c,rfl⟩:=open_slice_val Tryz.underlying26 t3
  obtain ⟨l,rfl,hl,hA,hrow,hcap,ds,hds,hdl,hg⟩:=open_row (e:=28) (K:=4) Pt.cells (GoodP W) Tryz.underlying26 (by kernel_rfl) (by omega) (fun k cs y hk hy => ih k (by omega) cs y hy) t3
  refine ⟨.mk s0 s1 s2 A c l,rfl,fun hb => ?_⟩
  rw [hx] at hb ⊢
  rw [blk_agg] at hb ⊢
  simp only [List.map_cons,List.map_nil,blkAll,Rows.uptoBulkAll] at hb ⊢
  have hz0:=blk_string (H:=H) s0
  have hz1:=blk_string (H:=H) s1
  simp only [blk,blkAll] at hz0 hz1 hds hcap
  rw [hz0,hz1] at hb ⊢
  have hen : ∀ (i : Nat) (a : Pt),l[i]? = some a → ∃ d,ds[i]? = some d ∧ a.In W.heap.size W ∧ a.count ≤ blk d ∧ a.capB:=by
   intro i a ha
   obtain ⟨d,hd,hgd⟩:=hg i a ha
   have:=blk_part (List.mem_of_getElem? hd)
   simp only [blk,blkAll] at this
   exact ⟨d,hd,hgd (by unfold blk; omega)⟩
  have hsum:=blk_sum Pt.count l ds hdl (fun i a ha => by obtain ⟨d,hd,-,hc,-⟩:=hen i a ha; exact ⟨d,hd,hc⟩)
  simp only [blkAll] at hsum
  refine ⟨Pt.In_mk.2 ⟨by omega,by omega,int_wf hw,by omega,⟨hl,hA⟩,hrow,fun t ht => ?_⟩,by rw [Pt.count_mk]; omega,Pt.capB_mk.2 ⟨by omega,fun t ht => ?_⟩⟩
  ·obtain ⟨i,hi⟩:=List.getElem?_of_mem ht
   obtain ⟨d,-,hin,-⟩:=hen i t hi
   exact hin
  ·obtain ⟨i,hi⟩:=List.getElem?_of_mem ht
   obtain ⟨d,-,-,-,hcp⟩:=hen i t hi
   exact hcp
theorem open_ty : ∀ (fuel : Nat) (cs : List Value) (x : DataW H × List MemPlace),DataW.trod enc Tryz.prog W 0 (fun _ => true) true fuel 25 cs = some x → ∃ p : Ty,cs = p.cells ∧ GoodT W p x.1:=by
 intro fuel
 induction fuel using Nat.strongRecOn with
 | _ fuel ih =>
  intro cs x h
  obtain ⟨ys,n,hn,hx,hyl,hcl,hf⟩:=open_fields Tryz.underlying25 (by kernel_rfl) (by kernel_rfl) h
  obtain ⟨y0,y1,y3,rfl⟩:=three_of hyl
  obtain ⟨c0,c1,c3,rfl⟩:=three_of hcl
  obtain ⟨_,_,h0,g0,t0⟩:=hf 0 _ rfl
  obtain ⟨_,_,h1,g1,t1⟩:=hf 1 _ rfl
  obtain ⟨_,_,h3,g3,t3⟩:=hf 2 _ rfl
  cases h0; cases h1; cases h3; cases g0; cases g1; cases g3
  obtain ⟨s0,e0,z0,-⟩:=DataW.trod_string Tryz.underlying9 t0
  obtain ⟨s1,e1,z1,-⟩:=DataW.trod_string Tryz.underlying9 t1
  simp only [List.cons.injEq,and_true] at e0 e1
  subst e0 e1 z0 z1
  obtain ⟨A,m,c,rfl⟩:=open_slice_val Tryz.underlying23 t3
  obtain ⟨l,rfl,hl,hA,hrow,hcap,ds,hds,hdl,hg⟩:=open_row (e:=25) (K:=3) Ty.cells (GoodT W) Tryz.underlying23 (by kernel_rfl) (by omega) (fun k cs y hk hy => ih k (by omega) cs y hy) t3
  refine ⟨.mk s0 s1 A c l,rfl,fun hb => ?_⟩
  rw [hx] at hb ⊢
  rw [blk_agg] at hb ⊢
  simp only [List.map_cons,List.map_nil,blkAll,Rows.uptoBulkAll] at hb ⊢
  have hz0:=blk_string (H:=H) s0
  have hz1:=blk_string (H:=H) s1
  simp only [blk,blkAll] at hz0 hz1 hds hcap
  rw [hz0,hz1] at hb ⊢
  have hen : ∀ (i : Nat) (a : Ty),l[i]? = some a → ∃ d,ds[i]? = some d ∧ a.In W.heap.size W ∧ a.count ≤ blk d ∧ a.capB:=by
   intro i a ha
   obtain ⟨d,hd,hgd⟩:=hg i a ha
   have:=blk_part (List.mem_of_getElem? hd)
   simp only [blk,blkAll] at this
   exact ⟨d,hd,hgd (by unfold blk; omega)⟩
  have hsum:=blk_sum Ty.count l ds hdl (fun i a ha => by obtain ⟨d,hd,-,hc,-⟩:=hen i a ha; exact ⟨d,hd,hc⟩)
  simp only [blkAll] at hsum
  refine ⟨Ty.In_mk.2 ⟨by omega,by omega,by omega,⟨hl,hA⟩,hrow,fun t ht => ?_⟩,by rw [Ty.count_mk]; omega,Ty.capB_mk.2 ⟨by omega,fun t ht => ?_⟩⟩
  ·obtain ⟨i,hi⟩:=List.getElem?_of_mem ht
   obtain ⟨d,-,hin,-⟩:=hen i t hi
   exact hin
  ·obtain ⟨i,hi⟩:=List.getElem?_of_mem ht
   obtain ⟨d,-,-,-,hcp⟩:=hen i t hi
   exact hcp
theorem open_pts {fuel : Nat} {v : Value} {x : DataW H × List MemPlace} (h : DataW.trod enc Tryz.prog W 0 (fun _ => true) true fuel 26 [v] = some x) (hb : blk x.1 ≤ 1048576) :
  ∃ A c l,v = .slice A (List.length l) c ∧ PtsIn W.heap.size W A l ∧ l.length ≤ c ∧ (A = none → c = 0) ∧ l.length ≤ 1048576 ∧ c ≤ 1048576 ∧ (l.map Pt.count).sum ≤ 1048576 ∧ ∀ p ∈ l,p.capB:=by
 obtain ⟨A,n,c,rfl⟩:=open_slice_val Tryz.underlying26 h
 obtain ⟨l,rfl,hl,hA,hrow,hcap,ds,hds,hdl,hg⟩:=open_row (e:=28) (K:=4) Pt.cells (GoodP W) Tryz.underlying26 (by kernel_rfl) (by omega) (fun k cs y hk hy => open_pt k cs y hy) h
 have hen : ∀ (i : Nat) (a : Pt),l[i]? = some a → ∃ d,ds[i]? = some d ∧ a.In W.heap.size W ∧ a.count ≤ blk d ∧ a.capB:=by
  intro i a ha
  obtain ⟨d,hd,hgd⟩:=hg i a ha
  have:=blk_part (List.mem_of_getElem? hd)
  exact ⟨d,hd,hgd (by omega)⟩
 have hsum:=blk_sum Pt.count l ds hdl (fun i a ha => by obtain ⟨d,hd,-,hc,-⟩:=hen i a ha; exact ⟨d,hd,hc⟩)
 refine ⟨A,c,l,rfl,⟨hrow,fun p hp => ?_,fun p hp => ?_,by omega⟩,hl,hA,by omega,by omega,by omega,fun p hp => ?_⟩
 rotate_left 2
 ·obtain ⟨i,hi⟩:=List.getElem?_of_mem hp
  obtain ⟨d,-,-,-,hcp⟩:=hen i p hi
  exact hcp
 ·obtain ⟨i,hi⟩:=List.getElem?_of_mem hp
  obtain ⟨d,-,hin,-⟩:=hen i p hi
  exact hin
 ·obtain ⟨i,hi⟩:=List.getElem?_of_mem hp
  obtain ⟨d,hd,-,hc,-⟩:=hen i p hi
  have:=blk_part (List.mem_of_getElem? hd)
  have:=p.binds_count
  omega
def GoodC (W : World) {H : Type} (c : Cn) (d : DataW H) : Prop:=blk d ≤ 1048576 → c.In W.heap.size W ∧ c.ty.count ≤ blk d ∧ c.ty.capB
def GoodD (W : World) {H : Type} (c : Dt) (d : DataW H) : Prop:=blk d ≤ 1048576 → c.In W.heap.size W ∧ c.cons.length ≤ 1048576 ∧ c.cap ≤ 1048576 ∧ c.cons.length ≤ blk d ∧ ∀ x ∈ c.cons,x.ty.count ≤ 1048576 ∧ x.ty.capB
theorem field_at {fs : Array Field} {n : Nat} {cs : List Value} {xs : List (DataW H × List MemPlace)} (hf : ∀ (i : Nat) (f : Field),fs[i]? = some f → DataW.trod enc Tryz.prog W 0 (fun _ => true) true n f.type ((cs.drop f.offset).take (Tryz.prog.cellsOf f.type)) = xs[i]?)
  {j o k : Nat} {ty : TypeId} {f : Field} (hj : fs[j]? = some f) (ho : f.offset = o) (hk : Tryz.prog.cellsOf f.type = k) (ht : f.type = ty) : DataW.trod enc Tryz.prog W 0 (fun _ => true) true n ty ((cs.drop o).take k) = xs[j]?:=by
 subst ho hk ht
 exact hf j f hj
set_option maxRecDepth 100000 in
theorem open_cn : ∀ (fuel : Nat) (cs : List Value) (x : DataW H × List MemPlace),DataW.trod enc Tryz.prog W 0 (fun _ => true) true fuel 117 cs = some x → ∃ p : Cn,cs = p.cells ∧ GoodC W p x.1:=by
 intro fuel cs x h
 obtain ⟨ys,n,rfl,rfl,hcl,hyl,hf⟩:=DataW.trod_struct Tryz.underlying117 h
 have hcl' : cs.length = 5:=hcl.trans (by kernel_rfl)
 obtain ⟨y0,y1,y2,rfl⟩:=three_of (hyl.trans rfl)
 obtain ⟨c0,c1,c2,c3,c4,rfl⟩ : ∃ a b c d e,cs = [a,b,c,d,e]:=by
  match cs,hcl' with
  | [a,b,c,d,e],_ => exact ⟨a,b,c,d,e,rfl⟩
 have t0:=field_at hf (j:=0) (o:=0) (k:=1) (ty:=9) rfl rfl (by kernel_rfl) rfl
 have t1:=field_at hf (j:=1) (o:=1) (k:=1) (ty:=4) rfl rfl (by kernel_rfl) rfl
 have t2:=field_at hf (j:=2) (o:=2) (k:=3) (ty:=25) rfl rfl (by kernel_rfl) rfl
 simp only [List.drop_zero,List.drop_succ_cons,List.take_succ_cons,List.take_zero,List.getElem?_cons_zero,List.getElem?_cons_succ] at t0 t1 t2
 obtain ⟨s0,e0,rfl,-⟩:=DataW.trod_string Tryz.underlying9 t0
 obtain ⟨b1,e1,rfl⟩:=DataW.trod_bool Tryz.underlying4 t1
 obtain ⟨u,e2,hu⟩:=open_ty _ _ _ t2
 simp only [Ty.cells,List.cons.injEq,and_true] at e0 e1 e2
 obtain ⟨rfl,rfl,rfl⟩:=e2
 subst e0 e1
 refine ⟨⟨s0,b1,u⟩,rfl,fun hb => ?_⟩
 rw [blk_agg] at hb ⊢
 have hz0:=blk_string (H:=H) s0
 simp only [blk] at hz0
 simp only [List.map_cons,List.map_nil,blkAll,Rows.uptoBulkAll,hz0] at hb ⊢
 obtain ⟨h1,h2,h3⟩:=hu (by unfold blk; omega)
 simp only [blk] at h2
 exact ⟨⟨by first | omega | (simp only; omega),h1⟩,by first | omega | (simp only; omega),h3⟩
theorem open_dt : ∀ (fuel : Nat) (cs : List Value) (x : DataW H × List MemPlace),DataW.trod enc Tryz.prog W 0 (fun _ => true) true fuel 111 cs = some x → ∃ p : Dt,cs = p.cells ∧ GoodD W p x.1:=by
 intro fuel cs x h
 obtain ⟨ys,n,hn,hx,hyl,hcl,hf⟩:=open_fields Tryz.underlying111 (by kernel_rfl) (by kernel_rfl) h
 obtain ⟨y0,y1,rfl⟩:=two_of hyl
 obtain ⟨c0,c1,rfl⟩:=two_of hcl
 obtain ⟨_,_,h0,g0,t0⟩:=hf 0 _ rfl
 obtain ⟨_,_,h1,g1,t1⟩:=hf 1 _ rfl
 cases h0; cases h1; cases g0; cases g1
 obtain ⟨s0,e0,z0,-⟩:=DataW.trod_string Tryz.underlying9 t0
 simp only [List.cons.injEq,and_true] at e0
 subst e0 z0
 obtain ⟨A,m,c,rfl⟩:=open_slice_val Tryz.underlying103 t1
 obtain ⟨l,rfl,hl,hA,hrow,hcap,ds,hds,hdl,hg⟩:=open_row (e:=117) (K:=5) Cn.cells (GoodC W) Tryz.underlying103 (by kernel_rfl) (by omega) (fun k cs y hk hy => open_cn k cs y hy) t1
 refine ⟨⟨s0,A,c,l⟩,rfl,fun hb => ?_⟩
 rw [hx] at hb ⊢
 rw [blk_agg] at hb ⊢
 have hz0:=blk_string (H:=H) s0
 simp only [blk,blkAll] at hz0 hds hcap
 simp only [List.map_cons,List.map_nil,blkAll,Rows.uptoBulkAll,hz0] at hb ⊢
 have hdl2:=blk_len ds
 simp only [blkAll] at hdl2
 have hev : ∀ c ∈ l,c.In W.heap.size W ∧ c.ty.count ≤ 1048576 ∧ c.ty.capB:=by
  intro c hc
  obtain ⟨i,hi⟩:=List.getElem?_of_mem hc
  obtain ⟨d,hd,hgd⟩:=hg i c hi
  have:=blk_part (List.mem_of_getElem? hd)
  simp only [blk,blkAll] at this
  obtain ⟨h1,h2,h3⟩:=hgd (by unfold blk; omega)
  simp only [blk] at h2
  exact ⟨h1,by omega,h3⟩
 refine ⟨⟨by first | omega | (simp only; omega),by first | omega | (simp only; omega),⟨hl,hA⟩,hrow,fun c hc => (hev c hc).1⟩,by first | omega | (simp only; omega),by first | omega | (simp only; omega),by first | omega | (simp only; omega),fun c hc => (hev c hc).2⟩
theorem open_dts {fuel : Nat} {v : Value} {x : DataW H × List MemPlace} (h : DataW.trod enc Tryz.prog W 0 (fun _ => true) true fuel 22 [v] = some x) (hb : blk x.1 ≤ 1048576) :
  ∃ A c l,v = .slice A (List.length l) c ∧ RowAt W.heap.size W 2 A (l.map Dt.cells) ∧ (∀ d ∈ l,d.In W.heap.size W ∧ d.cons.length ≤ 1048576 ∧ d.cap ≤ 1048576 ∧ ∀ x ∈ d.cons,x.ty.count ≤ 1048576 ∧ x.ty.capB) ∧ l.length ≤ c ∧ (A = none → c = 0) ∧ l.length ≤ 1048576 ∧ c ≤ 1048576 ∧ (l.map fun d => d.cons.length).sum ≤ 1048576:=by
 obtain ⟨A,n,c,rfl⟩:=open_slice_val Tryz.underlying22 h
 obtain ⟨l,rfl,hl,hA,hrow,hcap,ds,hds,hdl,hg⟩:=open_row (e:=111) (K:=2) Dt.cells (GoodD W) Tryz.underlying22 (by kernel_rfl) (by omega) (fun k cs y hk hy => open_dt k cs y hy) h
 have hen : ∀ (i : Nat) (a : Dt),l[i]? = some a → ∃ d,ds[i]? = some d ∧ a.In W.heap.size W ∧ a.cons.length ≤ 1048576 ∧ a.cap ≤ 1048576 ∧ a.cons.length ≤ blk d ∧ ∀ x ∈ a.cons,x.ty.count ≤ 1048576 ∧ x.ty.capB:=by
  intro i a ha
  obtain ⟨d,hd,hgd⟩:=hg i a ha
  have:=blk_part (List.mem_of_getElem? hd)
  exact ⟨d,hd,hgd (by omega)⟩
 have hsum:=blk_sum (fun d : Dt => d.cons.length) l ds hdl (fun i a ha => by obtain ⟨d,hd,-,-,-,hc,-⟩:=hen i a ha; exact ⟨d,hd,hc⟩)
 refine ⟨A,c,l,rfl,hrow,fun p hp => ?_,hl,hA,by omega,by omega,by omega⟩
 obtain ⟨i,hi⟩:=List.getElem?_of_mem hp
 obtain ⟨d,-,h1,h2,h3,-,h4⟩:=hen i p hi
 exact ⟨h1,h2,h3,h4⟩
end
end Go.Proofs.YtjeggkfgdhepaaaGreatDoor

namespace Go.Proofs.YtjeggkfgdhepaaaGreatDoor
open Go.RowKit
open Go.Proofs
open Go.Maps
theorem bytes_of {a b : ByteArray} (h : a.toList = b.toList) : a = b:=by
 rw [toList_data,toList_data] at h
 cases a; cases b
 simp only [ByteArray.mk.injEq]
 exact Array.toList_inj.1 h
theorem bytes_iff {a b : ByteArray} : a.toList = b.toList ↔ a = b:=⟨bytes_of,fun h => by rw [h]⟩
def Ty.hasVar : Ty → Bool
 | .mk d _ _ _ l => isDo [118,97,114] d || (l.map fun t => t.hasVar).any id
def Ty.datasL : Ty → List ByteArray
 | .mk d n _ _ l => if isDo [100,97,116,97] d then [n] else (l.map fun t => t.datasL).flatten
theorem Ty.hasVar_mk (d n : ByteArray) (a : Option Addr) (c : Nat) (l : List Ty) : (Ty.mk d n a c l).hasVar = (isDo [118,97,114] d || l.any Ty.hasVar):=by
 rw [Ty.hasVar]
 simp [List.any_map,Function.comp_def]
theorem Ty.datasL_mk (d n : ByteArray) (a : Option Addr) (c : Nat) (l : List Ty) : (Ty.mk d n a c l).datasL = if isDo [100,97,116,97] d then [n] else l.flatMap Ty.datasL:=by
 rw [Ty.datasL]
 rfl
def hasDt (l : List Dt) (n : ByteArray) : Bool:=l.any fun d => d.name.toList == n.toList
def closedB (l : List Dt) (t : Ty) : Bool:=t.valid (kindB .con) && (!t.hasVar && t.datasL.all (hasDt l))
def conOk (l : List Dt) (c : Cn) : Bool:=kindB .con c.name && (!(c.has && (!closedB l c.ty || !c.ty.plain)) && !(!c.has && !c.ty.zero))
def dtOk (l : List Dt) (d : Dt) : Bool:=kindB .con d.name && (decide (0 < d.cons.length) && d.cons.all (conOk l))
def soundB (l : List Dt) (t : Ty) : Bool:=l.all (dtOk l) && (distinctB (l.map Dt.name) && (distinctB ((allCons l).map Cn.name) && closedB l t))
theorem arity_data {d : ByteArray} (h : isDo [100,97,116,97] d = true) : Ty.arity d = some 0:=by
 unfold Ty.arity
 rw [h]
 simp
theorem known_closed (has : ByteArray → Bool) (con : ByteArray → Bool) (t : Ty) : t.well con = true → t.known has = (!t.hasVar && t.datasL.all has):=by
 refine Ty.induct (p:=fun t => t.well con = true → t.known has = (!t.hasVar && t.datasL.all has)) (fun d n a c l ih hw => ?_) t
 rw [Ty.well_mk] at hw
 simp only [Bool.and_eq_true] at hw
 obtain ⟨⟨-,har⟩,hall⟩:=hw
 rw [Ty.known_mk,Ty.hasVar_mk,Ty.datasL_mk]
 have ih' : l.all (fun t => t.known has) = (!l.any Ty.hasVar && (l.flatMap Ty.datasL).all has):=by
  rw [Bool.eq_iff_iff]
  simp only [List.all_eq_true,Bool.and_eq_true,Bool.not_eq_true',List.any_eq_false,List.mem_flatMap,forall_exists_index,and_imp] at *
  constructor
  ·intro h
   refine ⟨fun t ht => ?_,fun s t ht hs => ?_⟩
   ·have:=ih t ht (hall t ht)
    rw [h t ht] at this
    simp only [Bool.true_eq,Bool.and_eq_true,Bool.not_eq_true'] at this
    simp [this.1]
   ·have:=ih t ht (hall t ht)
    rw [h t ht] at this
    simp only [Bool.true_eq,Bool.and_eq_true,Bool.not_eq_true',List.all_eq_true] at this
    exact this.2 s hs
  ·rintro ⟨h1,h2⟩ t ht
   rw [ih t ht (hall t ht)]
   simp only [Bool.and_eq_true,Bool.not_eq_true',List.all_eq_true]
   exact ⟨by simpa using h1 t ht,fun s hs => h2 s t ht hs⟩
 rw [ih']
 cases hd : isDo [100,97,116,97] d
 ·simp only [Bool.false_and,Bool.not_false,Bool.true_and,Bool.false_eq_true,if_false]
  cases isDo [118,97,114] d <;> cases l.any Ty.hasVar <;> simp
 ·have hl : l = []:=by
   rw [arity_data hd] at har
   have h0 : 0 = l.length:=by simpa using har
   exact List.eq_nil_of_length_eq_zero h0.symm
  subst hl
  cases isDo [118,97,114] d <;> simp
theorem closed_there (l : List Dt) (t : Ty) : closedB l t = t.there (dTo l l.length):=by
 unfold closedB Ty.there
 cases hv : t.valid (kindB .con) with
 | false => rfl
 | true =>
  have hw : t.well (kindB .con) = true:=by unfold Ty.valid at hv; simp only [Bool.and_eq_true] at hv; exact hv.1
  rw [known_closed _ _ t hw]
  have : inL (dTo l l.length) = hasDt l:=by funext s; exact dTo_in l s
  rw [this]
theorem dnames (l : List Dt) : (keysN (dTo l l.length) == l.length) = distinctB (l.map Dt.name):=by
 have hlen : (dTo l l.length).length = l.length:=by simp [dTo]
 have e0 : (keysN (dTo l l.length) == l.length) = (keysN (dTo l l.length) == (dTo l l.length).length):=by rw [hlen]
 rw [e0,Bool.eq_iff_iff,beq_iff_eq,keysN_full]
 unfold distinctB dTo
 rw [List.take_length,List.pairwise_map,List.pairwise_reverse,decide_eq_true_eq,List.Nodup,List.pairwise_map]
 constructor
 ·intro h
  exact h.imp fun h e => h (by rw [e])
 ·intro h
  exact h.imp fun h e => h (bytes_of e.symm)
theorem cnames (l : List Dt) : (keysN (lTo l l.length) == consN l l.length) = distinctB ((allCons l).map Cn.name):=by
 have hlen : (lTo l l.length).length = consN l l.length:=lTo_len (Nat.le_refl _)
 rw [Bool.eq_iff_iff,beq_iff_eq,← hlen,keysN_full,lTo_tags,List.pairwise_map]
 have e : ((allCons l).map Cn.name).reverse = (tags l l.length).map fun x => x.con.name:=by
  rw [← List.map_reverse,← tags_cons,List.map_map]
  rfl
 unfold distinctB
 rw [decide_eq_true_eq,← List.reverse_reverse ((allCons l).map Cn.name),e,List.Nodup,List.pairwise_reverse,List.pairwise_map]
 constructor
 ·intro h
  exact h.imp fun h e => h (by rw [show _ = _ from e])
 ·intro h
  exact h.imp fun h e => h (bytes_of e).symm
theorem sound_world (l : List Dt) (t : Ty) : soundB l t = (worldB l && t.there (dTo l l.length)):=by
 unfold soundB worldB
 rw [dnames,cnames,closed_there]
 have key : ∀ (c : Cn),conOk l c = (c.okB && ((!c.has || c.ty.plain) && (!c.has || c.ty.there (dTo l l.length)))):=by
  intro c
  unfold conOk Cn.okB
  rw [closed_there]
  have hw : c.ty.there (dTo l l.length) = true → c.ty.well (kindB .con) = true:=by
   intro h
   unfold Ty.there Ty.valid at h
   simp only [Bool.and_eq_true] at h
   exact h.1.1
  cases h1 : c.ty.there (dTo l l.length)
  ·cases kindB .con c.name <;> cases c.has <;> cases c.ty.plain <;> cases c.ty.zero <;> cases c.ty.well (kindB .con) <;> rfl
  ·rw [hw h1]
   cases kindB .con c.name <;> cases c.has <;> cases c.ty.plain <;> cases c.ty.zero <;> rfl
 have hall : l.all (dtOk l) = (l.all Dt.okB && ((allCons l).all (fun c => !c.has || c.ty.plain) && (allCons l).all (fun c => !c.has || c.ty.there (dTo l l.length)))):=by
  rw [Bool.eq_iff_iff]
  simp only [List.all_eq_true,Bool.and_eq_true]
  constructor
  ·intro h
   refine ⟨fun d hd => ?_,fun c hc => ?_,fun c hc => ?_⟩
   ·have:=h d hd
    unfold dtOk at this
    unfold Dt.okB
    simp only [Bool.and_eq_true,List.all_eq_true] at this ⊢
    refine ⟨this.1,this.2.1,fun c hc => ?_⟩
    have h2:=this.2.2 c hc
    rw [key] at h2
    simp only [Bool.and_eq_true] at h2
    exact h2.1
   ·obtain ⟨d,hd,hcd⟩:=allCons_mem hc
    have:=h d hd
    unfold dtOk at this
    simp only [Bool.and_eq_true,List.all_eq_true] at this
    have h2:=this.2.2 c hcd
    rw [key] at h2
    simp only [Bool.and_eq_true] at h2
    exact h2.2.1
   ·obtain ⟨d,hd,hcd⟩:=allCons_mem hc
    have:=h d hd
    unfold dtOk at this
    simp only [Bool.and_eq_true,List.all_eq_true] at this
    have h2:=this.2.2 c hcd
    rw [key] at h2
    simp only [Bool.and_eq_true] at h2
    exact h2.2.2
  ·rintro ⟨h1,h2,h3⟩ d hd
   have h0:=h1 d hd
   unfold Dt.okB at h0
   unfold dtOk
   simp only [Bool.and_eq_true,List.all_eq_true] at h0 ⊢
   refine ⟨h0.1,h0.2.1,fun c hc => ?_⟩
   have hm : c ∈ allCons l:=by unfold allCons; exact List.mem_flatMap.2 ⟨d,hd,hc⟩
   rw [key]
   simp only [Bool.and_eq_true]
   exact ⟨h0.2.2 c hc,h2 c hm,h3 c hm⟩
 rw [hall]
 cases l.all Dt.okB <;> cases (allCons l).all (fun c => !c.has || c.ty.plain) <;> cases (allCons l).all (fun c => !c.has || c.ty.there (dTo l l.length)) <;> cases distinctB (l.map Dt.name) <;> cases distinctB ((allCons l).map Cn.name) <;> cases t.there (dTo l l.length) <;> rfl
def consOf (l : List Dt) (n : ByteArray) : List Cn:=match l.find? fun d => d.name.toList == n.toList with | some d => d.cons | none => []
def pickC (l : List Dt) (t : Ty) (s : ByteArray) (len : Nat) : Option Cn:=(consOf l t.name).find? fun c => isDo [100,97,116,97] t.dof && (c.name.toList == s.toList && (c.has == ((len : Int) == 1)))
def Pt.isOf (l : List Dt) : Pt → Ty → Bool
 | .mk d s _ _ _ ps => fun t =>
  let sub:=ps.map fun q => Pt.isOf l q
  if isDo [97,110,121] d || isDo [118,97,114] d then true
  else if isDo [105,110,116] d || isDo [98,111,111,108] d || isDo [117,110,105,116] d then t.dof.toList == d.toList
  else if isDo [110,105,108] d then isDo [108,105,115,116] t.dof
  else if isDo [112,97,105,114] d then isDo [112,97,105,114] t.dof && (sub.zipWith (fun f u => f u) t.args).all id
  else if isDo [99,111,110,115] d then isDo [108,105,115,116] t.dof && (sub.zipWith (fun f u => f u) (t.args.take 1 ++ [t])).all id
  else match pickC l t s ps.length with
   | none => false
   | some c => !c.has || (sub.zipWith (fun f u => f u) [c.ty]).all id
def isOfL (l : List Dt) (ps : List Pt) (ts : List Ty) : Bool:=((ps.map fun q => q.isOf l).zipWith (fun f u => f u) ts).all id
theorem Pt.isOf_mk (l : List Dt) (d s : ByteArray) (n : Int) (a : Option Addr) (c : Nat) (ps : List Pt) (t : Ty) : (Pt.mk d s n a c ps).isOf l t =
  if isDo [97,110,121] d || isDo [118,97,114] d then true
  else if isDo [105,110,116] d || isDo [98,111,111,108] d || isDo [117,110,105,116] d then t.dof.toList == d.toList
  else if isDo [110,105,108] d then isDo [108,105,115,116] t.dof
  else if isDo [112,97,105,114] d then isDo [112,97,105,114] t.dof && isOfL l ps t.args
  else if isDo [99,111,110,115] d then isDo [108,105,115,116] t.dof && isOfL l ps (t.args.take 1 ++ [t])
  else match pickC l t s ps.length with
   | none => false
   | some c => !c.has || isOfL l ps [c.ty]:=by
 rw [Pt.isOf]
 rfl
theorem zip_same {l : List Dt} {look : Look} : ∀ (ps : List Pt) (ts : List Ty),(∀ q ∈ ps,∀ u ∈ ts,q.isOf l u = q.fit look u) → isOfL l ps ts = fitsL look ps ts
 | [],_,_ => by simp [isOfL,fitsL]
 | _ :: _,[],_ => by simp [isOfL,fitsL]
 | q :: ps,u :: ts,h => by
  have ih:=zip_same (l:=l) (look:=look) ps ts (fun q hq u hu => h q (by simp [hq]) u (by simp [hu]))
  unfold isOfL fitsL at ih ⊢
  simp only [List.map_cons,List.zipWith_cons_cons,List.all_cons,ih,h q (by simp) u (by simp)]
theorem find_name {l : List Dt} (hd : distinctB (l.map Dt.name) = true) {d : Dt} (h : d ∈ l) : l.find? (fun x => x.name.toList == d.name.toList) = some d:=by
 unfold distinctB at hd
 rw [decide_eq_true_eq] at hd
 induction l with
 | nil => cases h
 | cons x l ih =>
  simp only [List.map_cons,List.nodup_cons] at hd
  rcases List.mem_cons.1 h with rfl | h'
  ·rw [List.find?_cons_of_pos (by simp)]
  ·rw [List.find?_cons_of_neg]
   ·exact ih hd.2 h'
   ·intro e
    exact hd.1 (List.mem_map.2 ⟨d,h',(bytes_of (by simpa using e)).symm⟩)
theorem find_con {cs : List Cn} (hd : distinctB (cs.map Cn.name) = true) {c : Cn} (h : c ∈ cs) (P : Cn → Bool) (hp : ∀ x ∈ cs,P x = true → x.name = c.name) : cs.find? P = if P c then some c else none:=by
 unfold distinctB at hd
 rw [decide_eq_true_eq] at hd
 induction cs with
 | nil => cases h
 | cons x cs ih =>
  simp only [List.map_cons,List.nodup_cons] at hd
  rcases List.mem_cons.1 h with rfl | h'
  ·by_cases hx : P c = true
   ·rw [List.find?_cons_of_pos hx,if_pos hx]
   ·rw [List.find?_cons_of_neg hx,if_neg hx,List.find?_eq_none]
    intro y hy hpy
    exact hd.1 (List.mem_map.2 ⟨y,hy,hp y (by simp [hy]) hpy⟩)
  ·have hx : ¬P x = true:=fun hpx => hd.1 (List.mem_map.2 ⟨c,h',(hp x (by simp) hpx).symm⟩)
   rw [List.find?_cons_of_neg hx]
   exact ih hd.2 h' (fun y hy => hp y (by simp [hy]))
theorem tagTo_name (dn : ByteArray) (cs : List Cn) : ∀ j,∀ x ∈ tagTo dn cs j,x.1 = dn
 | 0,x,hx => by simp [tagTo] at hx
 | j + 1,x,hx => by
  rw [tagTo] at hx
  cases hc : cs[j]? with
  | none => rw [hc] at hx; exact tagTo_name dn cs j x hx
  | some c =>
   rw [hc] at hx
   rcases List.mem_cons.1 hx with rfl | h
   ·rfl
   ·exact tagTo_name dn cs j x h
theorem tags_at {l : List Dt} {x : Tag} (h : x ∈ tags l l.length) : ∃ d ∈ l,x.1 = d.name ∧ x.con ∈ d.cons:=by
 unfold tags at h
 rw [List.take_length,List.mem_flatMap] at h
 obtain ⟨d,hd,hx⟩:=h
 refine ⟨d,by simpa using hd,tagTo_name _ _ _ x hx, ?_⟩
 have:=List.mem_map_of_mem (f:=Tag.con) hx
 rw [tagTo_cons] at this
 simpa using this
theorem allCons_sub {l : List Dt} {d : Dt} (hd : d ∈ l) (h : distinctB ((allCons l).map Cn.name) = true) : distinctB (d.cons.map Cn.name) = true:=by
 unfold distinctB allCons at *
 rw [decide_eq_true_eq] at *
 induction l with
 | nil => cases hd
 | cons x l ih =>
  simp only [List.flatMap_cons,List.map_append] at h
  rw [List.nodup_append] at h
  rcases List.mem_cons.1 hd with rfl | hd'
  ·exact h.1
  ·exact ih hd' h.2.1
theorem con_one {l : List Dt} (h : distinctB ((allCons l).map Cn.name) = true) {d d' : Dt} (hd : d ∈ l) (hd' : d' ∈ l) {c c' : Cn} (hc : c ∈ d.cons) (hc' : c' ∈ d'.cons) (he : c.name = c'.name) : c = c' ∧ d.name = d'.name:=by
 unfold distinctB allCons at h
 rw [decide_eq_true_eq] at h
 induction l with
 | nil => cases hd
 | cons x l ih =>
  simp only [List.flatMap_cons,List.map_append] at h
  rw [List.nodup_append] at h
  obtain ⟨h1,h2,h3⟩:=h
  have hcross : ∀ {a b : Cn} {y : Dt},a ∈ x.cons → y ∈ l → b ∈ y.cons → a.name = b.name → False:=by
   intro a b y ha hy hb hab
   exact h3 a.name (List.mem_map.2 ⟨a,ha,rfl⟩) b.name (List.mem_map.2 ⟨b,List.mem_flatMap.2 ⟨y,hy,hb⟩,rfl⟩) hab
  rcases List.mem_cons.1 hd with rfl | hd1 <;> rcases List.mem_cons.1 hd' with rfl | hd2
  ·refine ⟨?_,rfl⟩
   have : ∀ (cs : List Cn),(cs.map Cn.name).Nodup → c ∈ cs → c' ∈ cs → c = c':=by
    intro cs
    induction cs with
    | nil => intro _ hh; cases hh
    | cons y cs ih2 =>
     intro hn ha hb
     simp only [List.map_cons,List.nodup_cons] at hn
     rcases List.mem_cons.1 ha with rfl | ha' <;> rcases List.mem_cons.1 hb with rfl | hb'
     ·rfl
     ·exact absurd (List.mem_map.2 ⟨c',hb',he.symm⟩) hn.1
     ·exact absurd (List.mem_map.2 ⟨c,ha',he⟩) hn.1
     ·exact ih2 hn.2 ha' hb'
   exact this _ h1 hc hc'
  ·exact (hcross hc hd2 hc' he).elim
  ·exact (hcross hc' hd1 hc he.symm).elim
  ·exact ih h2 hd1 hd2
theorem isOf_fit {l : List Dt} (hn : distinctB (l.map Dt.name) = true) (hc : distinctB ((allCons l).map Cn.name) = true) (p : Pt) : ∀ t : Ty,p.wellB = true → p.isOf l t = p.fit (lookOf l) t:=by
 refine Pt.induct (p:=fun p => ∀ t : Ty,p.wellB = true → p.isOf l t = p.fit (lookOf l) t) (fun d s n a c ps ih t hw => ?_) p
 rw [Pt.wellB_mk,Bool.and_eq_true,List.all_eq_true] at hw
 rw [Pt.isOf_mk,Pt.fit_mk]
 have hz : ∀ ts,isOfL l ps ts = fitsL (lookOf l) ps ts:=fun ts => zip_same ps ts (fun q hq u _ => ih q hq u (hw.2 q hq))
 simp only [hz]
 cases h1 : isDo [97,110,121] d || isDo [118,97,114] d with
 | true => rfl
 | false =>
 simp only [Bool.false_eq_true,if_false]
 cases h2 : isDo [105,110,116] d || isDo [98,111,111,108] d || isDo [117,110,105,116] d with
 | true => rfl
 | false =>
 simp only [Bool.false_eq_true,if_false]
 cases h3 : isDo [110,105,108] d with
 | true =>
  have : isDo [112,97,105,114] d = false:=do_other h3 (by decide)
  rw [this]
  simp
 | false =>
 simp only [Bool.false_eq_true,if_false]
 cases h4 : isDo [112,97,105,114] d with
 | true => rfl
 | false =>
 simp only [Bool.false_eq_true,if_false]
 cases h5 : isDo [99,111,110,115] d with
 | true => rfl
 | false =>
 simp only [Bool.false_eq_true,if_false]
 have hlen : ps.length ≤ 1:=by
  have:=hw.1
  unfold nodeOk at this
  simp only [isDo,Bool.or_eq_false_iff] at h1 h2 h3 h4 h5
  simp only [h1.1,h1.2,h2.1.1,h2.1.2,h2.2,h3,h4,h5,Bool.false_or,Bool.or_false,Bool.false_eq_true,if_false] at this
  split at this
  ·simp only [Bool.and_eq_true,decide_eq_true_eq] at this
   exact this.2
  ·cases this
 unfold pickC consOf lookOf
 cases hf : (tags l l.length).find? (fun x => x.con.name.toList == s.toList) with
 | none =>
  simp only [Option.map_none]
  have hnone : ∀ d' ∈ l,∀ c' ∈ d'.cons,(c'.name.toList == s.toList) = false:=by
   intro d' hd' c' hc'
   obtain ⟨x,hx,rfl⟩:=mem_tags (l:=l) (c:=c') (by unfold allCons; exact List.mem_flatMap.2 ⟨d',hd',hc'⟩)
   have:=List.find?_eq_none.1 hf x hx
   simpa using this
  cases hg : l.find? (fun d => d.name.toList == t.name.toList) with
  | none => simp
  | some d' =>
   have hm:=List.mem_of_find?_eq_some hg
   have : (d'.cons.find? fun c => isDo [100,97,116,97] t.dof && (c.name.toList == s.toList && (c.has == ((ps.length : Int) == 1)))) = none:=by
    rw [List.find?_eq_none]
    intro c' hc'
    rw [hnone d' hm c' hc']
    simp
   simp only [this]
 | some x =>
  have hx:=List.mem_of_find?_eq_some hf
  have hxs : x.con.name = s:=bytes_of (by simpa using List.find?_some hf)
  obtain ⟨d0,hd0,hx1,hxc⟩:=tags_at hx
  simp only [Option.map_some,hx1]
  cases hdt : isDo [100,97,116,97] t.dof with
  | false =>
   simp only [Bool.false_and]
   have hff : ∀ cs : List Cn,cs.find? (fun _ => false) = none:=fun cs => by rw [List.find?_eq_none]; simp
   cases hg : l.find? (fun d => d.name.toList == t.name.toList) with
   | none => simp
   | some d' => simp only [hff]
  | true =>
   simp only [Bool.true_and]
   cases hg : l.find? (fun d => d.name.toList == t.name.toList) with
   | none =>
    have:=List.find?_eq_none.1 hg d0 hd0
    have hne : (t.name.toList == d0.name.toList) = false:=by
     rw [beq_eq_false_iff_ne]
     intro e
     exact this (by simp [e])
    rw [hne]
    simp
   | some d' =>
    have hm:=List.mem_of_find?_eq_some hg
    have hdn : d'.name = t.name:=bytes_of (by simpa using List.find?_some hg)
    by_cases hsame : t.name = d0.name
    ·have hdd : d' = d0:=by
      have:=find_name hn hd0
      rw [← hsame] at this
      rw [this] at hg
      exact (Option.some.inj hg).symm
     subst hdd
     have hfc:=find_con (allCons_sub hm hc) hxc (fun c => c.name.toList == s.toList && (c.has == ((ps.length : Int) == 1))) (by
      intro y hy hpy
      simp only [Bool.and_eq_true] at hpy
      rw [hxs]
      exact bytes_of (by simpa using hpy.1))
     simp only [hfc,hsame,hxs,beq_self_eq_true,Bool.true_and]
     match ps,hlen with
     | [],_ =>
      cases hh : x.con.has with
      | false => simp [hh,fitsL]
      | true => simp [hh]
     | [q],_ =>
      cases hh : x.con.has with
      | false => simp [hh]
      | true => simp [hh,fitsL]
     | _ :: _ :: _,h => simp at h
    ·have hne : (t.name.toList == d0.name.toList) = false:=by
      rw [beq_eq_false_iff_ne]
      intro e
      exact hsame (bytes_of e)
     rw [hne]
     have : (d'.cons.find? fun c => c.name.toList == s.toList && (c.has == ((ps.length : Int) == 1))) = none:=by
      rw [List.find?_eq_none]
      intro c' hc' hp
      simp only [Bool.and_eq_true] at hp
      have h9 : c'.name = x.con.name:=by rw [hxs]; exact bytes_of (by simpa using hp.1)
      exact hsame (hdn.symm.trans (con_one hc hm hd0 hc' hxc h9).2)
     simp only [this,Bool.false_and]
end Go.Proofs.YtjeggkfgdhepaaaGreatDoor

namespace Go.Proofs.YtjeggkfgdhepaaaGreatDoor
open Go.RowKit
open Go.Proofs
set_option maxHeartbeats 1000000 in
theorem rIsVar_any (s : ByteArray) (hs : s.size ≤ 140737488355328) (w : World) :
  Calls Tryz.prog 154 #[.string s] w fun e w' => e = .returned (.bool (isTyVar s)) ∧ w = w':=by
 by_cases h2 : s.size = 2
 ·have hb : ((s.size : Int) == 2) = true:=by simp; omega
  have i0 : (0 : Int) < s.size:=by omega
  have i1 : (1 : Int) < s.size:=by omega
  obtain ⟨b,h39⟩ : ∃ b,((s[0].toNat : Int) == 39) = b:=⟨_,rfl⟩
  obtain ⟨c1,hc1⟩ : ∃ c,decide ((97 : Int) ≤ (s[1].toNat : Int)) = c:=⟨_,rfl⟩
  obtain ⟨c2,hc2⟩ : ∃ c,decide ((s[1].toNat : Int) ≤ 122) = c:=⟨_,rfl⟩
  have hc : smallB s[1] = (c1 && c2):=by rw [← hc1,← hc2]; exact (small_test s[1]).symm
  have hres : isTyVar s = (b && (c1 && c2)):=by
   unfold isTyVar
   have e : s.toList = [s[0],s[1]]:=by
    rw [toList_data]
    have e1:=from_lt (s:=s) (i:=0) (by omega)
    have e2:=from_lt (s:=s) (i:=1) (by omega)
    have e3:=from_end s (i:=2) (by omega)
    rw [e2,e3] at e1
    exact e1
   rw [e]
   simp only [hc]
   congr 1
   rw [← h39,Bool.eq_iff_iff]
   simp
   omega
  rw [hres]
  clear hres hc
  have hd1 : c1 = true → (97 : Int) ≤ (s[1].toNat : Int):=fun h => by subst h; exact of_decide_eq_true hc1
  have hd1' : c1 = false → ¬(97 : Int) ≤ (s[1].toNat : Int):=fun h => by subst h; exact of_decide_eq_false hc1
  have hd2 : c2 = true → (s[1].toNat : Int) ≤ 122:=fun h => by subst h; exact of_decide_eq_true hc2
  have hd2' : c2 = false → ¬(s[1].toNat : Int) ≤ 122:=fun h => by subst h; exact of_decide_eq_false hc2
  cases b
  ·go_enter Tryz.func154,Tryz.ntmps154
   go_wp2_with fail
   go_ret
   exact ⟨rfl,rfl⟩
  cases c1
  ·have k1:=hd1' rfl
   go_enter Tryz.func154,Tryz.ntmps154
   go_wp2_with fail
   go_ret
   exact ⟨rfl,rfl⟩
  cases c2
  ·have k1:=hd1 rfl
   have k2:=hd2' rfl
   go_enter Tryz.func154,Tryz.ntmps154
   go_wp2_with fail
   go_ret
   exact ⟨rfl,rfl⟩
  ·have k1:=hd1 rfl
   have k2:=hd2 rfl
   go_enter Tryz.func154,Tryz.ntmps154
   go_wp2_with fail
   go_ret
   exact ⟨rfl,rfl⟩
 ·have hb : ((s.size : Int) == 2) = false:=by simp; omega
  have hres : isTyVar s = false:=by
   unfold isTyVar
   rw [toList_data]
   have hl : s.data.toList.length = s.size:=by simp
   split
   ·rename_i a b e
    rw [e] at hl
    simp at hl
    omega
   ·rfl
  rw [hres]
  go_enter Tryz.func154,Tryz.ntmps154
  go_wp2_with fail
  go_ret
  exact ⟨rfl,rfl⟩
theorem name_plain {d n : ByteArray} (hd : (d.toList == [100,97,116,97]) = false) (hv : (d.toList == [118,97,114]) = false) (con : ByteArray → Bool) : Ty.nameOk con d n = (n.toList == []):=by
 unfold Ty.nameOk isDo
 rw [hd,hv]
 rfl
def RW (con : ByteArray → Bool) (d n : ByteArray) (a : Nat) : Prop:=Ty.nameOk con d n = (n.toList == []) ∧ Ty.arity d = some a
theorem RW.zero {con : ByteArray → Bool} {d n : ByteArray} {x : List UInt8} (h : (d.toList == x) = true) (hx : x = [105,110,116] ∨ x = [98,111,111,108] ∨ x = [117,110,105,116] ∨ x = [116,101,120,116]) : RW con d n 0:=by
 have e : d.toList = x:=by simpa using h
 refine ⟨name_plain ?_ ?_ con, ?_⟩
 ·rw [e]; rcases hx with rfl | rfl | rfl | rfl <;> decide
 ·rw [e]; rcases hx with rfl | rfl | rfl | rfl <;> decide
 ·unfold Ty.arity isDo; rw [e]; rcases hx with rfl | rfl | rfl | rfl <;> decide
theorem RW.two {con : ByteArray → Bool} {d n : ByteArray} {x : List UInt8} (h : (d.toList == x) = true) (hx : x = [112,97,105,114] ∨ x = [102,110]) : RW con d n 2:=by
 have e : d.toList = x:=by simpa using h
 refine ⟨name_plain ?_ ?_ con, ?_⟩
 ·rw [e]; rcases hx with rfl | rfl <;> decide
 ·rw [e]; rcases hx with rfl | rfl <;> decide
 ·unfold Ty.arity isDo; rw [e]; rcases hx with rfl | rfl <;> decide
theorem RW.one {con : ByteArray → Bool} {d n : ByteArray} {x : List UInt8} (h : (d.toList == x) = true) (hx : x = [108,105,115,116] ∨ x = [97,114,114,97,121]) : RW con d n 1:=by
 have e : d.toList = x:=by simpa using h
 refine ⟨name_plain ?_ ?_ con, ?_⟩
 ·rw [e]; rcases hx with rfl | rfl <;> decide
 ·rw [e]; rcases hx with rfl | rfl <;> decide
 ·unfold Ty.arity isDo; rw [e]; rcases hx with rfl | rfl <;> decide
theorem arity_none {d : ByteArray} (h1 : (d.toList == [105,110,116]) = false) (h2 : (d.toList == [98,111,111,108]) = false) (h3 : (d.toList == [117,110,105,116]) = false) (h4 : (d.toList == [116,101,120,116]) = false) (h5 : (d.toList == [112,97,105,114]) = false)
  (h6 : (d.toList == [102,110]) = false) (h7 : (d.toList == [108,105,115,116]) = false) (h8 : (d.toList == [97,114,114,97,121]) = false) (h9 : (d.toList == [100,97,116,97]) = false) (h10 : (d.toList == [118,97,114]) = false) : Ty.arity d = none:=by
 unfold Ty.arity isDo
 rw [h1,h2,h3,h4,h5,h6,h7,h8,h9,h10]
 rfl
theorem len_zero_beq (n : Nat) : (some 0 == some n) = ((n : Int) == 0):=by
 rw [Bool.eq_iff_iff]
 simp
 omega
set_option maxRecDepth 100000 in
set_option maxHeartbeats 4000000 in
theorem rType_any : ∀ (t : Ty) (w : World),Env w → t.In w.heap.size w →
  Calls Tryz.prog 137 #[t.val] w fun e w' => e = .returned (.bool (t.well (kindB .con))) ∧ Below w.heap.size w w':=by
 refine Ty.induct fun d n A c l ih w he hin => ?_
 obtain ⟨hd,hn,hl,-,hrow,hall⟩:=Ty.In_mk.1 hin
 have HR:=Lib.hid hrow
 have HA:=Lib.hid hall
 have IH:=Lib.hid ih
 have HE:=Lib.hid he
 clear hin hrow hall ih he
 have HB0:=Lib.hid ((Below.refl w.heap.size w).alloc (Nat.le_refl _) (.cells #[.string d,.string n,.slice A l.length c] 25))
 have HK:=Lib.hid (Blk.new w #[.string d,.string n,.slice A l.length c] 25)
 have HWM:=Lib.hid (Ty.well_mk (kindB .con) d n A c l)
 unfold Ty.val
 simp only [Ty.dof,Ty.name,Ty.at_,Ty.cap,Ty.args]
 have HNO : Hid (∀ (e : Ending) (w' : World) (b : Bool),Below w.heap.size w w' → (Ty.mk d n A c l).well (kindB .con) = b → e = .returned (.bool b) → e = .returned (.bool ((Ty.mk d n A c l).well (kindB .con))) ∧ Below w.heap.size w w'):=Lib.hid fun e w' b h h1 h2 => ⟨by rw [h1]; exact h2,h⟩
 generalize (Ty.mk d n A c l).well (kindB .con) = res at HWM HNO ⊢
 go_enter Tryz.func137,Tryz.ntmps137
 go_upto_block 0 with (fail)
 go_cut [3] (fun av wx => ∃ a : Nat,av = .int .i64 a ∧ Hid (RW (kindB .con) d n a) ∧ Hid (Below w.heap.size w wx) ∧ Hid (Blk wx w.heap.size #[.string d,.string n,.slice A l.length c] 25))
 case first =>
  generalize w.alloc (.cells #[.string d,.string n,.slice A l.length c] 25) = w0 at HB0 HK ⊢
  obtain ⟨y0,y1,y2⟩:=HK.out.three
  have yl:=HK.out.lt
  obtain ⟨t1,h1⟩ : ∃ t,(d.toList == [105,110,116]) = t:=⟨_,rfl⟩
  cases t1
  case true =>
   have HW:=Lib.hid (RW.zero (con:=kindB .con) (n:=n) h1 (by simp))
   go_wp2_with fail
   go_meet
   exact ⟨0,rfl,HW.out,HB0.out,HK.out⟩
  obtain ⟨t2,h2⟩ : ∃ t,(d.toList == [98,111,111,108]) = t:=⟨_,rfl⟩
  cases t2
  case true =>
   have HW:=Lib.hid (RW.zero (con:=kindB .con) (n:=n) h2 (by simp))
   go_wp2_with fail
   go_meet
   exact ⟨0,rfl,HW.out,HB0.out,HK.out⟩
  obtain ⟨t3,h3⟩ : ∃ t,(d.toList == [117,110,105,116]) = t:=⟨_,rfl⟩
  cases t3
  case true =>
   have HW:=Lib.hid (RW.zero (con:=kindB .con) (n:=n) h3 (by simp))
   go_wp2_with fail
   go_meet
   exact ⟨0,rfl,HW.out,HB0.out,HK.out⟩
  obtain ⟨t4,h4⟩ : ∃ t,(d.toList == [116,101,120,116]) = t:=⟨_,rfl⟩
  cases t4
  case true =>
   have HW:=Lib.hid (RW.zero (con:=kindB .con) (n:=n) h4 (by simp))
   go_wp2_with fail
   go_meet
   exact ⟨0,rfl,HW.out,HB0.out,HK.out⟩
  obtain ⟨t5,h5⟩ : ∃ t,(d.toList == [112,97,105,114]) = t:=⟨_,rfl⟩
  cases t5
  case true =>
   have HW:=Lib.hid (RW.two (con:=kindB .con) (n:=n) h5 (by simp))
   go_wp2_with fail
   go_meet
   exact ⟨2,rfl,HW.out,HB0.out,HK.out⟩
  obtain ⟨t6,h6⟩ : ∃ t,(d.toList == [102,110]) = t:=⟨_,rfl⟩
  cases t6
  case true =>
   have HW:=Lib.hid (RW.two (con:=kindB .con) (n:=n) h6 (by simp))
   go_wp2_with fail
   go_meet
   exact ⟨2,rfl,HW.out,HB0.out,HK.out⟩
  obtain ⟨t7,h7⟩ : ∃ t,(d.toList == [108,105,115,116]) = t:=⟨_,rfl⟩
  cases t7
  case true =>
   have HW:=Lib.hid (RW.one (con:=kindB .con) (n:=n) h7 (by simp))
   go_wp2_with fail
   go_meet
   exact ⟨1,rfl,HW.out,HB0.out,HK.out⟩
  obtain ⟨t8,h8⟩ : ∃ t,(d.toList == [97,114,114,97,121]) = t:=⟨_,rfl⟩
  cases t8
  case true =>
   have HW:=Lib.hid (RW.one (con:=kindB .con) (n:=n) h8 (by simp))
   go_wp2_with fail
   go_meet
   exact ⟨1,rfl,HW.out,HB0.out,HK.out⟩
  obtain ⟨t9,h9⟩ : ∃ t,(d.toList == [100,97,116,97]) = t:=⟨_,rfl⟩
  obtain ⟨z,hz⟩ : ∃ z,((l.length : Int) == 0) = z:=⟨_,rfl⟩
  cases t9
  case true =>
   have hc:=rIsCon_any n hn
   have hok : res = (kindB .con n && z):=by
    have e:=HWM.out
    rw [arity_data (d:=d) h9,len_zero_beq,hz] at e
    rw [e]
    unfold Ty.nameOk isDo
    rw [h9,if_pos rfl]
    cases z
    ·simp
    ·have : l = []:=by simpa using hz
     rw [this]
     simp
   generalize kindB .con n = cb at hc hok
   have HC:=Lib.hid hc
   have HOK:=Lib.hid hok
   clear hc hok
   cases cb
   ·go_wp2_with fail
    refine Calls.mono (HC.out _ (HE.out.next HB0.out)) ?_
    rintro e w1 ⟨rfl,hb1⟩
    have HB1:=Lib.hid (HB0.out.trans (hb1.mono HB0.out.size))
    clear hb1
    go_wp2_with fail
    go_ret
    exact HNO.out _ _ _ HB1.out HOK.out rfl
   ·cases z
    all_goals
     go_wp2_with fail
     refine Calls.mono (HC.out _ (HE.out.next HB0.out)) ?_
     rintro e w1 ⟨rfl,hb1⟩
     have HB1:=Lib.hid (HB0.out.trans (hb1.mono HB0.out.size))
     have HK1:=Lib.hid (HK.out.below hb1 HK.out.lt)
     clear hb1 y0 y1 y2 yl
     obtain ⟨y0,y1,y2⟩:=HK1.out.three
     have yl:=HK1.out.lt
     go_wp2_with fail
     go_ret
     exact HNO.out _ _ _ HB1.out HOK.out rfl
  obtain ⟨t10,h10⟩ : ∃ t,(d.toList == [118,97,114]) = t:=⟨_,rfl⟩
  cases t10
  case true =>
   have hc:=rIsVar_any n (by omega)
   have hok : res = (isTyVar n && z):=by
    have e:=HWM.out
    have har : Ty.arity d = some 0:=by
     unfold Ty.arity isDo
     rw [h10]
     simp
    rw [har,len_zero_beq,hz] at e
    rw [e]
    unfold Ty.nameOk isDo
    rw [h9,h10]
    cases z
    ·simp
    ·have : l = []:=by simpa using hz
     rw [this]
     simp
   generalize isTyVar n = cb at hc hok
   have HC:=Lib.hid hc
   have HOK:=Lib.hid hok
   clear hc hok
   cases cb
   ·go_wp2_with fail
    refine Calls.mono (HC.out _) ?_
    rintro e w1 ⟨rfl,rfl⟩
    go_wp2_with fail
    go_ret
    exact HNO.out _ _ _ HB0.out HOK.out rfl
   ·cases z
    all_goals
     go_wp2_with fail
     refine Calls.mono (HC.out _) ?_
     rintro e w1 ⟨rfl,rfl⟩
     go_wp2_with fail
     go_ret
     exact HNO.out _ _ _ HB0.out HOK.out rfl
  have hno : res = false:=by
   have e:=HWM.out
   rw [arity_none h1 h2 h3 h4 h5 h6 h7 h8 h9 h10] at e
   rw [e]
   simp
  have HN:=Lib.hid hno
  clear hno hz
  go_wp2_with fail
  go_ret
  exact HNO.out _ _ _ HB0.out HN.out rfl
 case rest =>
  obtain ⟨a,rfl,HRW,HB,HKX⟩:=hcut
  obtain ⟨y0,y1,y2⟩:=HKX.out.three
  have yl:=HKX.out.lt
  have HW:=Lib.hid (show res = ((n.toList == []) && ((l.length : Int) == (a : Int)) && l.all fun t => t.well (kindB .con)) by
   have e:=HWM.out
   rw [HRW.out.1,HRW.out.2] at e
   rw [e]
   have : (some a == some l.length) = ((l.length : Int) == (a : Int)):=by rw [Bool.eq_iff_iff]; simp; omega
   rw [this])
  have ha:=HRW.out
  clear ha
  go_wp2_with fail
  go_loopw [44] (fun iv wr => ∃ k : Nat,iv = .int .i64 k ∧ k ≤ l.length ∧ Hid (Below wc.heap.size wc wr) ∧ Hid ((l.take k).all (fun t => t.well (kindB .con)) = true)) (fun iv _ => l.length - (intOf iv).toNat)
  case atStart => exact ⟨0,rfl,Nat.zero_le _,Below.refl _ _,Lib.hid rfl⟩
  case round =>
   obtain ⟨k,rfl,hk,HC,HM⟩:=hrel
   have HBW:=Lib.hid (HB.out.trans (HC.out.mono HB.out.size))
   by_cases hlt : k < l.length
   ·obtain ⟨q,b0,off,hq,hmem,rfl,hb,x0,x1,x2⟩:=Ty.arg_at HR.out HBW.out hlt
    have HQ:=Lib.hid ((HA.out q hmem).at_ HBW.out HBW.out.size)
    have HQK:=Lib.hid hq
    have HCC:=Lib.hid (fun (W : World) (he : Env W) (hp : q.In W.heap.size W) => IH.out q hmem W he hp)
    unfold Ty.val at HCC
    clear hq
    go_wp2_with fail
    refine Calls.mono (HCC.out _ ((HE.out.next HBW.out).next ((Below.refl _ _).alloc (Nat.le_refl _) _)) (HQ.out.next ((Below.refl _ _).alloc (Nat.le_refl _) _))) ?_
    rintro e w1 ⟨rfl,hb1⟩
    have HB1:=Lib.hid (HC.out.trans ((((Below.refl _ _).alloc (Nat.le_refl _) _).trans (hb1.mono (by simp))).mono HC.out.size))
    clear hb1
    obtain ⟨r,hr⟩ : ∃ r,q.well (kindB .con) = r:=⟨_,rfl⟩
    rw [hr]
    have HRR:=Lib.hid hr
    clear hr
    cases r
    ·go_wp2_with fail
     go_ret
     refine HNO.out _ _ false (HB.out.trans (HB1.out.mono HB.out.size)) ?_ rfl
     rw [HW.out,all_no (p:=fun t => t.well (kindB .con)) HQK.out HRR.out,Bool.and_false]
    ·go_wp2_with fail
     exact ⟨⟨k + 1,by go_num,by omega,HB1.out,Lib.hid (all_take_succ HQK.out HM.out HRR.out)⟩,by simp [intOf]; omega⟩
   ·have hk2 : k = l.length:=by omega
    have hm:=HM.out
    rw [hk2,List.take_length] at hm
    have HALL:=Lib.hid hm
    clear hm hk2 y0 y1 y2 yl
    obtain ⟨y0,y1,y2⟩:=(HKX.out.below HC.out HKX.out.lt).three
    have yl:=(HKX.out.below HC.out HKX.out.lt).lt
    obtain ⟨te,hte⟩ : ∃ t,(n.toList == []) = t:=⟨_,rfl⟩
    obtain ⟨tl,htl⟩ : ∃ t,((l.length : Int) == (a : Int)) = t:=⟨_,rfl⟩
    have hte2 : n.toList.isEmpty = te:=by rw [← hte]; cases n.toList <;> rfl
    have HRES:=Lib.hid (show res = (te && tl) by rw [HW.out,HALL.out,hte,htl,Bool.and_true])
    clear hte
    cases te
    ·go_wp2_with fail
     go_ret
     exact HNO.out _ _ _ HBW.out HRES.out rfl
    ·cases tl
     all_goals
      go_wp2_with fail
      go_ret
      exact HNO.out _ _ _ HBW.out HRES.out rfl
set_option maxHeartbeats 1000000 in
theorem rValidType_any (t : Ty) (w : World) (h : Env w) (hin : t.In w.heap.size w) :
  Calls Tryz.prog 114 #[t.val] w fun e w' => e = .returned (.bool (t.valid (kindB .con))) ∧ Below w.heap.size w w':=by
 have HE:=Lib.hid h
 have HI:=Lib.hid hin
 have HC1:=Lib.hid (fun (W : World) (he : Env W) (hp : t.In W.heap.size W) => rType_any t W he hp)
 have HC2:=Lib.hid (fun (W : World) (hp : t.In W.heap.size W) => sizeType_any t W hp)
 unfold Ty.valid
 clear h hin
 have HB0:=Lib.hid ((Below.refl w.heap.size w).alloc (Nat.le_refl _) (.cells #[.string t.dof,.string t.name,.slice t.at_ t.args.length t.cap] 25))
 generalize t.well (kindB .con) = ok at HC1 ⊢
 generalize t.size = sz at HC2 ⊢
 unfold Ty.val at *
 cases ok
 all_goals
  go_enter Tryz.func114,Tryz.ntmps114
  go_wp2_with fail
  refine Calls.mono (HC1.out _ (HE.out.next HB0.out) (HI.out.at_ HB0.out HB0.out.size)) ?_
  rintro e w1 ⟨rfl,hb1⟩
  obtain ⟨y0,y1,y2⟩:=Blk.three ((Blk.new w _ _).below hb1 (by simp))
  have HB1:=Lib.hid (HB0.out.trans (hb1.mono HB0.out.size))
  have yl : w.heap.size < w1.heap.size:=by have:=hb1.size; simp at this; omega
  clear hb1
  go_wp2_with fail
 ·go_ret
  exact ⟨rfl,HB1.out⟩
 ·refine Calls.mono (HC2.out _ (HI.out.at_ HB1.out HB1.out.size)) ?_
  rintro e w2 ⟨rfl,hb2⟩
  have HB2:=Lib.hid (HB1.out.trans (hb2.mono HB1.out.size))
  clear hb2
  go_wp2_with fail
  refine Calls.mono (small_any _ _ _) ?_
  rintro e w3 ⟨rfl,rfl⟩
  go_wp2_with fail
  go_ret
  exact ⟨by simp,HB2.out⟩
set_option maxRecDepth 100000 in
set_option maxHeartbeats 2000000 in
theorem rPlain_any : ∀ (t : Ty) (w : World),t.In w.heap.size w →
  Calls Tryz.prog 76 #[t.val] w fun e w' => e = .returned (.bool t.plain) ∧ Below w.heap.size w w':=by
 refine Ty.induct fun d n A c l ih w hin => ?_
 obtain ⟨hd,hn,hl,-,hrow,hall⟩:=Ty.In_mk.1 hin
 have HR:=Lib.hid hrow
 have HA:=Lib.hid hall
 have IH:=Lib.hid ih
 clear hin hrow hall ih
 have HB0:=Lib.hid ((Below.refl w.heap.size w).alloc (Nat.le_refl _) (.cells #[.string d,.string n,.slice A l.length c] 25))
 have HK:=Lib.hid (Blk.new w #[.string d,.string n,.slice A l.length c] 25)
 rw [Ty.plain_mk]
 unfold Ty.val isDo
 simp only [Ty.dof,Ty.name,Ty.at_,Ty.cap,Ty.args]
 go_enter Tryz.func76,Tryz.ntmps76
 go_wp2_with fail
 generalize w.alloc (.cells #[.string d,.string n,.slice A l.length c] 25) = w0 at HB0 HK ⊢
 go_loopw [8] (fun iv wr => ∃ k : Nat,iv = .int .i64 k ∧ k ≤ l.length ∧ Hid (Below w0.heap.size w0 wr) ∧ Hid ((l.take k).all Ty.plain = true)) (fun iv _ => l.length - (intOf iv).toNat)
 case atStart => exact ⟨0,rfl,Nat.zero_le _,Below.refl _ _,Lib.hid rfl⟩
 case round =>
  obtain ⟨k,rfl,hk,HC,HM⟩:=hrel
  have HBW:=Lib.hid (HB0.out.trans (HC.out.mono HB0.out.size))
  by_cases hlt : k < l.length
  ·obtain ⟨q,b0,off,hq,hmem,rfl,hb,x0,x1,x2⟩:=Ty.arg_at HR.out HBW.out hlt
   have HQ:=Lib.hid ((HA.out q hmem).at_ HBW.out HBW.out.size)
   have HQK:=Lib.hid hq
   have HCC:=Lib.hid (fun (W : World) (hp : q.In W.heap.size W) => IH.out q hmem W hp)
   unfold Ty.val at HCC
   clear hq
   go_wp2_with fail
   refine Calls.mono (HCC.out _ (HQ.out.next ((Below.refl _ _).alloc (Nat.le_refl _) _))) ?_
   rintro e w1 ⟨rfl,hb1⟩
   have HB1:=Lib.hid (HC.out.trans ((((Below.refl _ _).alloc (Nat.le_refl _) _).trans (hb1.mono (by simp))).mono HC.out.size))
   clear hb1
   obtain ⟨r,hr⟩ : ∃ r,q.plain = r:=⟨_,rfl⟩
   rw [hr]
   have HRR:=Lib.hid hr
   clear hr
   cases r
   ·go_wp2_with fail
    go_ret
    refine ⟨?_,HB0.out.trans (HB1.out.mono HB0.out.size)⟩
    rw [all_no HQK.out HRR.out]
    simp
   ·go_wp2_with fail
    exact ⟨⟨k + 1,by go_num,by omega,HB1.out,Lib.hid (all_take_succ HQK.out HM.out HRR.out)⟩,by simp [intOf]; omega⟩
  ·have hk2 : k = l.length:=by omega
   have hm:=HM.out
   rw [hk2,List.take_length] at hm
   have HM2:=Lib.hid hm
   have kv:=HK.out.below HC.out HK.out.lt
   obtain ⟨y0,y1,y2⟩:=kv.three
   have yl:=kv.lt
   clear kv hk2 hm
   obtain ⟨tv,hv⟩ : ∃ t,(d.toList == [118,97,114]) = t:=⟨_,rfl⟩
   obtain ⟨tf,hf⟩ : ∃ t,(d.toList == [102,110]) = t:=⟨_,rfl⟩
   obtain ⟨ta,ha⟩ : ∃ t,(d.toList == [97,114,114,97,121]) = t:=⟨_,rfl⟩
   have hv':=bne_of hv
   have hf':=bne_of hf
   have ha':=bne_of ha
   have HV:=Lib.hid (And.intro hv (And.intro hf ha))
   cases tv <;> cases tf <;> cases ta
   all_goals
    go_wp2_with fail
    go_ret
    refine ⟨?_,HBW.out⟩
    rw [HM2.out,HV.out.1,HV.out.2.1,HV.out.2.2]
    rfl
end Go.Proofs.YtjeggkfgdhepaaaGreatDoor
