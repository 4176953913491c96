/- The constructor that the program's value takes. -/
import Derived.Test.YtjeggkfgdhepaaaGreatDoorG09
set_option linter.unusedVariables false
set_option linter.unusedSimpArgs false
namespace Go.Proofs.YtjeggkfgdhepaaaGreatDoor
open Go.RowKit
open Go.Proofs
open Go.Maps
def numOr (N : Nums) (n : ByteArray) : Int:=match N n with | some m => m | none => 0
def takes (N : Nums) (n : ByteArray) (c : Cn) : Bool:=(conN N c).2 && ((conN N c).1 == numOr N n)
def SV (bs bt : Nat) (K : Sk) (s : ByteArray) (v : Value) (W : World) : Prop:=
 W.cell? ⟨bs,0,none⟩ = some (.pointer (some ⟨K.b,0,none⟩)) ∧ bs < W.heap.size ∧ W.cell? ⟨bt,1,none⟩ = some (.string s) ∧ bt < W.heap.size ∧ W.cell? ⟨K.b,3,none⟩ = some (.map (some K.bN)) ∧ K.b < W.heap.size ∧ (Instr.lookup 88 (.map (some K.bN)) (.string s) false).run Tryz.prog W = .ok v W
set_option maxRecDepth 100000 in
set_option maxHeartbeats 4000000 in
theorem valueCon_any (K : Sk) (l : List Dt) (L : List (ByteArray × Value)) (cn : Cn) (bs bt : Nat) (d n : ByteArray) (tv : Value) (w : World) (hok : cn.has = true → okT l cn.ty) (hin : cn.In w.heap.size w) (hsk : SkAt K l L w)
  (hs : Blk w bs #[K.val] 82) (ht : Blk w bt #[.string d,.string n,tv] 25) (hn : n.size ≤ 1099511627776) :
  Calls Tryz.prog 120 #[cn.val,.pointer (some ⟨bs,0,none⟩),.pointer (some ⟨bt,0,none⟩)] w fun e w' => e = .returned (.bool (takes (numL L) n cn)) ∧ Below w.heap.size w w':=by
 have HB0:=Lib.hid ((Below.refl w.heap.size w).alloc (Nat.le_refl _) (.cells #[.string cn.name,.bool cn.has,.string cn.ty.dof,.string cn.ty.name,.slice cn.ty.at_ cn.ty.args.length cn.ty.cap] 117))
 have HC:=Lib.hid (fun (W : World) (hW : Below w.heap.size w W) => conNodes_any K l L cn W hok (hin.at_ hW hW.size) (hsk.next hW))
 have hlk:=num_look hsk.vals n
 simp only [Prod.mk.injEq] at hlk
 have hbox : ∀ W,Below w.heap.size w W → SV bs bt K n (.int .i64 (numOr (numL L) n)) W:=fun W hW => by
  have k1:=hs.below hW hs.lt
  have k2:=ht.below hW ht.lt
  have hs2:=hsk.next hW
  obtain ⟨f,hf⟩:=hs2.blk
  obtain ⟨m,hm⟩:=hs2.n
  refine ⟨k1.cell 0,k1.lt,k2.cell 1,k2.lt,hf.cell 3,hf.lt, ?_⟩
  have h9:=map_look_gen false Tryz.underlying88 (zeroInt W) hm n hn
  rw [hlk.1] at h9
  exact h9
 have HBOX:=Lib.hid hbox
 have s0:=hs.cell 0
 have s1:=hs.lt
 unfold takes
 unfold Sk.val at s0 HC
 generalize numOr (numL L) n = m at HBOX ⊢
 generalize conN (numL L) cn = a at HC ⊢
 obtain ⟨x,ok⟩:=a
 have HEND:=Lib.hid (fun (W : World) (h : Below w.heap.size w W) => h)
 clear hin hsk hok hlk hbox hs ht hn
 unfold Cn.val at *
 simp only at HC ⊢
 go_enter Tryz.func120,Tryz.ntmps120
 go_wp2_with fail
 refine Calls.mono (HC.out _ HB0.out) ?_
 rintro e w1 ⟨rfl,hb1⟩
 have HB1:=Lib.hid (HB0.out.trans (hb1.mono HB0.out.size))
 clear hb1 s0 s1
 go_wp2_with fail
 refine region_mix (SV bs bt K n (.int .i64 m)) [(0,true),(1,true),(2,true),(3,true),(4,true),(5,true),(6,true),(7,true),(8,true),(9,true),(10,true),(11,false),(12,false)] 11 (by kernel_rfl) (by kernel_rfl) (HBOX.out _ HB1.out.drew) ?_
 simp only [pickM,List.filterMap_cons,List.getElem?_cons_zero,List.getElem?_cons_succ,List.filterMap_nil,Option.map_some]
 cases ok
 case false =>
  iterate 2
   refine wpMix_read ?_ (by rfl) (fun W hW => ?_) ?_
   rotate_left
   ·unfold SV at hW
    go_simp
    try with_reducible rfl
   simp only [Act.put,List.setIfInBounds_toArray,List.set_cons_zero,List.set_cons_succ]
  iterate 9
   refine wpMix_none (by rfl) ?_
   simp only [Act.put,List.setIfInBounds_toArray,List.set_cons_zero,List.set_cons_succ]
  iterate 2
   refine wpMix_step rfl (fun K hK => ?_)
   go_simp
   refine hK _ _ (fun _ => HBOX.out _ HB1.out.drew) ?_
   clear hK K
  refine wpMix_nil ?_
  refine NoPanic.normal ?_
  go_wp2_with fail
  go_ret
  exact ⟨rfl,HB1.out.drew⟩
 case true =>
  iterate 11
   refine wpMix_read ?_ (by rfl) (fun W hW => ?_) ?_
   rotate_left
   ·unfold SV at hW
    go_simp
    try with_reducible rfl
   simp only [Act.put,List.setIfInBounds_toArray,List.set_cons_zero,List.set_cons_succ]
  iterate 2
   refine wpMix_step rfl (fun K hK => ?_)
   go_simp
   refine hK _ _ (fun _ => HBOX.out _ HB1.out.drew) ?_
   clear hK K
  refine wpMix_nil ?_
  refine NoPanic.normal ?_
  go_wp2_with fail
  go_ret
  exact ⟨by simp,HB1.out.drew⟩
def firstN (N : Nums) (n : ByteArray) (cs : List Cn) : Nat:=cs.findIdx (takes N n)
set_option maxRecDepth 100000 in
theorem valueIdx_any (K : Sk) (l : List Dt) (L : List (ByteArray × Value)) (cs : List Cn) (A : Option Addr) (cap : Nat) (bs bt : Nat) (d n : ByteArray) (tv : Value) (w : World) (hok : ∀ cn ∈ cs,cn.has = true → okT l cn.ty) (hin : ∀ cn ∈ cs,cn.In w.heap.size w)
  (hrow : RowAt w.heap.size w 5 A (cs.map Cn.cells)) (hlen : cs.length ≤ 1048576) (hsk : SkAt K l L w) (hs : Blk w bs #[K.val] 82) (ht : Blk w bt #[.string d,.string n,tv] 25) (hn : n.size ≤ 1099511627776) (hex : ∃ cn ∈ cs,takes (numL L) n cn = true) :
  Calls Tryz.prog 119 #[.slice A cs.length cap,.func (.func 120) #[] #[.pointer (some ⟨bs,0,none⟩),.pointer (some ⟨bt,0,none⟩)]] w
   fun e w' => Below w.heap.size w w' ∧ ∃ (i : Nat) (cn : Cn),e = .returned (.int .i64 i) ∧ cs[i]? = some cn ∧ takes (numL L) n cn = true:=by
 refine Calls.mono (indexCon 120 (enters_of Tryz.func120 (by kernel_rfl) rfl) _ cs A cap w
  (fun k W => Below w.heap.size w W ∧ ∀ cn ∈ cs.take k,takes (numL L) n cn = false) (fun k W => Below w.heap.size w W ∧ ∃ cn,cs[k]? = some cn ∧ takes (numL L) n cn = true) (by omega) (fun k W h => ⟨_,hrow.keep h.1⟩) ⟨Below.refl _ _,by simp⟩
  (fun k W q hq ⟨hb,hno⟩ => by
   have hm:=List.mem_of_getElem? hq
   have h1:=valueCon_any K l L q bs bt d n tv W (hok q hm) ((hin q hm).at_ hb hb.size) (hsk.next hb) (hs.below hb hs.lt) (ht.below hb ht.lt) hn
   refine Calls.mono h1 ?_
   rintro e w' ⟨rfl,hb'⟩
   have hb2:=hb.trans (hb'.mono hb.size)
   cases hk : takes (numL L) n q with
   | true => exact .inl ⟨rfl,hb2,q,hq,hk⟩
   | false =>
    refine .inr ⟨rfl,hb2,fun cn hcn => ?_⟩
    rw [take_snoc hq,List.mem_append,List.mem_singleton] at hcn
    rcases hcn with h | rfl
    ·exact hno cn h
    ·exact hk)) ?_
 rintro e w' (⟨i,hi,rfl,hb,cn,hcn,ht⟩ | ⟨rfl,hb,hno⟩)
 ·exact ⟨hb,i,cn,rfl,hcn,ht⟩
 ·rw [List.take_length] at hno
  obtain ⟨cn,hcn,ht⟩:=hex
  rw [hno cn hcn] at ht
  cases ht
end Go.Proofs.YtjeggkfgdhepaaaGreatDoor

namespace Go.Proofs.YtjeggkfgdhepaaaGreatDoor
open Go.RowKit
open Go.Proofs
open Go.Maps
structure VEnv (K : Sk) (l : List Dt) (L : List (ByteArray × Value)) (w : World) : Prop where
 sk : SkAt K l L w
 dts : ∀ d ∈ l,d.In w.heap.size w ∧ d.cons.length ≤ 1048576
theorem VEnv.next {K : Sk} {l : List Dt} {L : List (ByteArray × Value)} {w w1 : World} (h : VEnv K l L w) (hb : Below w.heap.size w w1) : VEnv K l L w1:=⟨h.sk.next hb,fun d hd => ⟨(h.dts d hd).1.at_ hb hb.size,(h.dts d hd).2⟩⟩
theorem Sm.wide_dt {K : Sk} {w w1 : World} (h : Sm K w w1) {d : Dt} (hin : d.In w.heap.size w) : d.In w1.heap.size w1:=(h.dt (Nat.le_refl _) d hin).at_ (Below.refl _ _) h.size
theorem Sm.wide_pt {K : Sk} {w w1 : World} (h : Sm K w w1) {p : Pt} (hin : p.In w.heap.size w) : p.In w1.heap.size w1:=Pt.In.wider h.size p (h.pt (Nat.le_refl _) p hin)
theorem Sm.wide_ty {K : Sk} {w w1 : World} (h : Sm K w w1) {p : Ty} (hin : p.In w.heap.size w) : p.In w1.heap.size w1:=Ty.In.wider h.size p (h.ty (Nat.le_refl _) p hin)
theorem VEnv.sm {K : Sk} {l : List Dt} {L : List (ByteArray × Value)} {w w1 : World} (h : VEnv K l L w) (hs : Sm K w w1) : VEnv K l L w1:=⟨h.sk.sm hs,fun d hd => ⟨hs.wide_dt (h.dts d hd).1,(h.dts d hd).2⟩⟩
def Met (l : List Dt) (N : Nums) : Prop:=∀ d ∈ l,∀ m,N d.name = some m → ∃ c ∈ d.cons,conN N c = (m,true)
def Open_ (K : Sk) (w : World) : Prop:=Blk w K.b (K.cells false) 90
theorem Sm.back {K : Sk} {w w1 : World} (h : Sm K w w1) (ho : Open_ K w1) : Open_ K w:=by
 obtain ⟨f,f',hf,hf',hm⟩:=h.flag
 have e:=Sk.cells_inj (hf'.same ho)
 cases f with
 | false => exact hf
 | true => rw [hm rfl] at e; cases e
theorem Sm.set {K : Sk} {w w1 : World} (h : Sm K w w1) {b : Nat} (hb : w.heap.size ≤ b) (j : Nat) (v : Value) : Sm K w (w1.setCell ⟨b,j,none⟩ v):=by
 obtain ⟨f,f',hf,hf',hm⟩:=h.flag
 have hk:=hf.lt
 refine ⟨h.os,h.tape,h.output,by simpa [World.setCell] using h.size,fun k hk2 hne => ?_,f,f',hf,hf'.far (by simp only; omega) v,hm⟩
 exact (Below.heap_setCell _ _ _ _ (by simp only; omega)).trans (h.block k hk2 hne)
theorem Sm.flagged {K : Sk} {w : World} {f : Bool} (h : Blk w K.b (K.cells f) 90) : Sm K w (w.setCell ⟨K.b,4,none⟩ (.bool true)) ∧ Blk (w.setCell ⟨K.b,4,none⟩ (.bool true)) K.b (K.cells true) 90:=by
 have h2 : Blk (w.setCell ⟨K.b,4,none⟩ (.bool true)) K.b (K.cells true) 90:=(h.set 4 (.bool true)).cast rfl
 refine ⟨⟨rfl,rfl,rfl,by simp [World.setCell],fun k hk hne => Below.heap_setCell _ _ _ _ (by simpa using hne),f,true,h,h2,fun _ => rfl⟩,h2⟩
def Pt.From (B : Nat) : Pt → Prop
 | .mk _ _ _ A _ l => (0 < l.length → ∃ b o,A = some ⟨b,o,none⟩ ∧ B ≤ b) ∧ ∀ p ∈ l.map (fun t => t.From B),p
theorem Pt.From_mk {B : Nat} {d n : ByteArray} {m : Int} {A : Option Addr} {c : Nat} {l : List Pt} : (Pt.mk d n m A c l).From B ↔ (0 < l.length → ∃ b o,A = some ⟨b,o,none⟩ ∧ B ≤ b) ∧ ∀ t ∈ l,t.From B:=by
 rw [Pt.From]
 simp only [List.mem_map,forall_exists_index,and_imp,forall_apply_eq_imp_iff₂]
theorem Pt.From.flat (B : Nat) (d n : ByteArray) (m : Int) (A : Option Addr) (c : Nat) : (Pt.mk d n m A c []).From B:=Pt.From_mk.2 ⟨fun h => absurd h (by simp),fun t ht => by cases ht⟩
theorem Pt.From.any (B : Nat) : anyPt.From B:=by unfold anyPt; exact Pt.From.flat ..
theorem Pt.From.less {B B' : Nat} (hB : B' ≤ B) : ∀ p : Pt,p.From B → p.From B':=by
 refine Pt.induct (p:=fun p => p.From B → p.From B') fun d n m A c l ih h => ?_
 rw [Pt.From_mk] at h ⊢
 refine ⟨fun hl => ?_,fun t ht => ih t ht (h.2 t ht)⟩
 obtain ⟨b,o,e,hb⟩:=h.1 hl
 exact ⟨b,o,e,by omega⟩
theorem Pt.In.moved {B B0 B' : Nat} {w w' : World} (hk : ∀ k,B0 ≤ k → k < B → w'.heap[k]? = w.heap[k]?) (hB : B ≤ B') : ∀ p : Pt,p.In B w → p.From B0 → p.In B' w':=by
 refine Pt.induct (p:=fun p => p.In B w → p.From B0 → p.In B' w') fun d n m A c l ih hin hf => ?_
 rw [Pt.In_mk] at hin ⊢
 rw [Pt.From_mk] at hf
 obtain ⟨h1,h2,h3,h4,h5,h6,h7⟩:=hin
 refine ⟨h1,h2,h3,h4,h5,fun hl => ?_,fun t ht => ih t ht (h7 t ht) (hf.2 t ht)⟩
 obtain ⟨b,o,he,hb,hc⟩:=h6 hl
 obtain ⟨b',o',he',hb'⟩:=hf.1 (by simpa using hl)
 rw [he] at he'
 simp only [Option.some.injEq,Addr.mk.injEq,and_true] at he'
 obtain ⟨rfl,rfl⟩:=he'
 exact ⟨b,o,he,by omega,fun i x hi j v hj => (World.cell?_of_block (hk b hb' hb)).trans (hc i x hi j v hj)⟩
def ValuePost (K : Sk) (l : List Dt) (t : Ty) (w : World) (e : Ending) (w' : World) : Prop:=Sm K w w' ∧ ∃ p : Pt,e = .returned p.val ∧ p.In w'.heap.size w' ∧ p.From w.heap.size ∧ (Open_ K w' → Val l t p)
theorem flat_in (B : Nat) (w : World) (d s : ByteArray) (n : Int) (hd : d.size ≤ 1099511627776) (hs : s.size ≤ 1099511627776) (hn : -9223372036854775808 ≤ n ∧ n ≤ 9223372036854775807) : (Pt.mk d s n none 0 []).In B w:=by
 rw [Pt.In_mk]
 exact ⟨hd,hs,hn,by simp,⟨by simp,fun _ => rfl⟩,fun h => by simp at h,fun t ht => by cases ht⟩
theorem four_sm {K : Sk} {w W : World} {b : Nat} {a0 a1 a2 a3 : Value} {T : TypeId} (h : Blk W b #[a0,a1,a2,a3] T) (hb : Sm K w W) (hB : w.heap.size ≤ b) (v0 v1 v2 v3 : Value) :
  Sm K w ((((W.setCell ⟨b,0,none⟩ v0).setCell ⟨b,1,none⟩ v1).setCell ⟨b,2,none⟩ v2).setCell ⟨b,3,none⟩ v3) ∧ Blk ((((W.setCell ⟨b,0,none⟩ v0).setCell ⟨b,1,none⟩ v1).setCell ⟨b,2,none⟩ v2).setCell ⟨b,3,none⟩ v3) b #[v0,v1,v2,v3] T:=
 ⟨(((hb.set hB 0 v0).set hB 1 v1).set hB 2 v2).set hB 3 v3,((((h.set 0 v0).set 1 v1).set 2 v2).set 3 v3).cast rfl⟩
def vBox (K : Sk) (t : Ty) (w : World) : World:=((w.alloc (.cells #[K.val] 82)).alloc (.cells #[.string t.dof,.string t.name,.slice t.at_ t.args.length t.cap] 25)).alloc (.cells #[.string emptyS,.string emptyS,.int .i64 0,.slice none 0 0] 28)
structure VBox (K : Sk) (t : Ty) (w W : World) : Prop where
 below : Below w.heap.size w W
 s : Blk W w.heap.size #[K.val] 82
 t : Blk W (w.heap.size + 1) #[.string t.dof,.string t.name,.slice t.at_ t.args.length t.cap] 25
 o : Blk W (w.heap.size + 1 + 1) #[.string emptyS,.string emptyS,.int .i64 0,.slice none 0 0] 28
theorem VBox.mk0 (K : Sk) (t : Ty) (w : World) : VBox K t w (vBox K t w):=
 ⟨(((Below.refl w.heap.size w).alloc (Nat.le_refl _) _).alloc (by simp) _).alloc (by simp; omega) _,((Blk.new w _ _).alloc _).alloc _,(Blk.new' _ _ _ (w.heap.size + 1) (by simp)).alloc _,Blk.new' _ _ _ (w.heap.size + 1 + 1) (by simp)⟩
theorem SkAt.lt {K : Sk} {l : List Dt} {L : List (ByteArray × Value)} {w : World} (h : SkAt K l L w) : K.b < w.heap.size:=by
 obtain ⟨f,hf⟩:=h.blk
 exact hf.lt
theorem VBox.next {K : Sk} {t : Ty} {w W W1 : World} (h : VBox K t w W) (hb : Below W.heap.size W W1) : VBox K t w W1:=⟨h.below.trans (hb.mono h.below.size),h.s.below hb h.s.lt,h.t.below hb h.t.lt,h.o.below hb h.o.lt⟩
theorem okPost {K : Sk} {l : List Dt} {t : Ty} {w w' : World} {p : Pt} {e : Ending} (hs : Sm K w w') (he : e = .returned p.val) (hp : p.In w'.heap.size w') (hf : p.From w.heap.size) (hv : Open_ K w' → Val l t p) : ValuePost K l t w e w':=⟨hs,p,he,hp,hf,hv⟩
set_option maxRecDepth 100000 in
set_option maxHeartbeats 4000000 in
theorem value_big (K : Sk) (l : List Dt) (L : List (ByteArray × Value)) (t : Ty) (w : World) (ht : okT l t) (hin : t.In w.heap.size w) (hv : VEnv K l L w) (hbig : 2000 < (nodesN (numL L) t).1) :
  Calls Tryz.prog 88 #[K.val,t.val] w (ValuePost K l t w):=by
 have HC:=Lib.hid (fun (W : World) (hW : Below w.heap.size w W) => nodes_any K l L t W ht (hin.next hW) (hv.sk.next hW))
 have HV:=Lib.hid hv
 have HB:=Lib.hid (VBox.mk0 K t w)
 generalize hn : nodesN (numL L) t = a at HC hbig
 obtain ⟨x,ok⟩:=a
 simp only at HC hbig
 clear hin ht hv hn
 unfold Ty.val Sk.val at *
 unfold vBox at HB
 have K2:=Lib.hid HB.out.t
 have KS:=Lib.hid HB.out.s
 unfold Sk.val at HB K2 KS
 obtain ⟨y0,y1,y2⟩:=K2.out.three
 go_enter Tryz.func88,Tryz.ntmps88
 go_wp2_with fail
 refine Calls.mono (HC.out _ HB.out.below) ?_
 rintro e w1 ⟨rfl,hb1⟩
 have HB1:=Lib.hid (HB.out.next hb1)
 clear hb1 y0 y1 y2
 obtain ⟨f,hf⟩:=(HV.out.sk.next HB1.out.below).blk
 have HF:=Lib.hid hf
 have fb:=hf.free 4
 have fl:=hf.lt
 have fc : w1.cell? ⟨K.b,4,none⟩ = some (.bool f):=(hf.cell 4).trans rfl
 have s0:=HB1.out.s.cell 0
 have s1:=HB1.out.s.lt
 clear hf
 unfold Sk.val at s0
 simp only [List.getElem?_toArray,List.getElem?_cons_zero] at s0
 have zl:=HB1.out.o.lt
 obtain ⟨z0,z1,z2,z3⟩:=HB1.out.o.four
 have hne : K.b ≠ w.heap.size + 1 + 1:=by have:=HV.out.sk.lt; omega
 have f0:=HB1.out.o.free 0
 have f1:=HB1.out.o.free 1
 have f2:=HB1.out.o.free 2
 have f3:=HB1.out.o.free 3
 go_wp2_with fail
 have hfl:=Sm.flagged HF.out
 have hs2 : Sm K w (w1.setCell ⟨K.b,4,none⟩ (.bool true)):=(HV.out.sk.same HB1.out.below).trans hfl.1
 obtain ⟨hs6,hk6⟩:=four_sm (HB1.out.o.far (a:=⟨K.b,4,none⟩) hne.symm (.bool true)) hs2 (by omega) (.string dAny) (.string emptyS) (.int .i64 0) (.slice none 0 0)
 have hop6:=((((hfl.2.far (a:=⟨w.heap.size + 1 + 1,0,none⟩) hne (.string dAny)).far (a:=⟨w.heap.size + 1 + 1,1,none⟩) hne (.string emptyS)).far (a:=⟨w.heap.size + 1 + 1,2,none⟩) hne (.int .i64 0)).far (a:=⟨w.heap.size + 1 + 1,3,none⟩) hne (.slice none 0 0))
 unfold dAny emptyS at hs6 hk6 hop6
 generalize ((((w1.setCell ⟨K.b,4,none⟩ (.bool true)).setCell ⟨w.heap.size + 1 + 1,0,none⟩ (.string ⟨#[97,110,121]⟩)).setCell ⟨w.heap.size + 1 + 1,1,none⟩ (.string ⟨#[]⟩)).setCell ⟨w.heap.size + 1 + 1,2,none⟩ (.int .i64 0)).setCell ⟨w.heap.size + 1 + 1,3,none⟩ (.slice none 0 0) = w6 at hs6 hk6 hop6 ⊢
 obtain ⟨r0,r1,r2,r3⟩:=hk6.four
 exact bodyPost_ret (v:=anyPt.val) (by simp [results,Tryz.results88,go_sem,r0,r1,r2,r3,anyPt,Pt.val,Pt.dof,Pt.name,Pt.num,Pt.at_,Pt.cap,Pt.args]) rfl (okPost (p:=anyPt) hs6 rfl (anyPt_in _ _) (Pt.From.any _) (fun h => by have:=Sk.cells_inj (hop6.same h); cases this))
set_option maxRecDepth 100000 in
set_option maxHeartbeats 4000000 in
theorem value_flat (K : Sk) (l : List Dt) (L : List (ByteArray × Value)) (t : Ty) (w : World) (ht : okT l t) (hin : t.In w.heap.size w) (hv : VEnv K l L w) (hsm : (nodesN (numL L) t).1 ≤ 2000) (h1 : isDo [112,97,105,114] t.dof = false) (h2 : isDo [100,97,116,97] t.dof = false) :
  Calls Tryz.prog 88 #[K.val,t.val] w (ValuePost K l t w):=by
 have HC:=Lib.hid (fun (W : World) (hW : Below w.heap.size w W) => nodes_any K l L t W ht (hin.next hW) (hv.sk.next hW))
 have HV:=Lib.hid hv
 have HB:=Lib.hid (VBox.mk0 K t w)
 have HT:=Lib.hid ht
 have HD:=Lib.hid (show t.dof.size ≤ 1099511627776 by
  obtain ⟨d9,n9,a9,c9,l9⟩:=t
  exact (Ty.In_mk.1 hin).1)
 have hkinds:=ty_kinds ht
 rw [h1,h2] at hkinds
 generalize hn : nodesN (numL L) t = a at HC hsm
 obtain ⟨x,ok⟩:=a
 simp only at HC hsm
 unfold isDo at h1 h2
 clear hin ht hv hn
 unfold Ty.val Sk.val at *
 unfold vBox at HB
 obtain ⟨y0,y1,y2⟩:=HB.out.t.three
 obtain ⟨tl,hl⟩ : ∃ x,(t.dof.toList == [108,105,115,116]) = x:=⟨_,rfl⟩
 obtain ⟨tf,hf⟩ : ∃ x,(t.dof.toList == [105,110,116] || (t.dof.toList == [98,111,111,108] || t.dof.toList == [117,110,105,116])) = x:=⟨_,rfl⟩
 have HL:=Lib.hid hl
 have HF:=Lib.hid hf
 have HKI:=Lib.hid hkinds
 clear hkinds
 obtain ⟨ti,hi⟩ : ∃ x,(t.dof.toList == [105,110,116]) = x:=⟨_,rfl⟩
 obtain ⟨tb,hb⟩ : ∃ x,(t.dof.toList == [98,111,111,108]) = x:=⟨_,rfl⟩
 obtain ⟨tu,hu⟩ : ∃ x,(t.dof.toList == [117,110,105,116]) = x:=⟨_,rfl⟩
 rw [hi,hb,hu] at hf
 have HVAL : Hid (∀ p : Pt,p = (if tl then Pt.mk dNil emptyS 0 none 0 [] else if tf then Pt.mk t.dof emptyS 0 none 0 [] else anyPt) → Val l t p):=Lib.hid fun p hp => by
  cases tl
  case true =>
   simp only [if_true] at hp
   subst hp
   exact ((form_nil (t:=t) (l:=l) (by unfold isDo; exact HL.out)).val _ ⟨rfl,rfl,rfl⟩).2 .nil
  case false =>
   simp only [Bool.false_eq_true,if_false] at hp
   cases tf
   case true =>
    simp only [if_true] at hp
    subst hp
    have h3:=HF.out
    rw [Bool.or_eq_true,Bool.or_eq_true] at h3
    rcases h3 with h | h | h
    ·have e : t.dof = dInt:=bytes_is h l_int
     rw [e]
     exact ((form_int (t:=t) (l:=l) h 0).val _ ⟨rfl,rfl,rfl⟩).2 .nil
    ·have e : t.dof = dBool:=bytes_is h l_bool
     rw [e]
     exact ((form_bool (t:=t) (l:=l) h 0 (.inl rfl)).val _ ⟨rfl,rfl,rfl⟩).2 .nil
    ·have e : t.dof = dUnit:=bytes_is h l_unit
     rw [e]
     exact ((form_unit (t:=t) (l:=l) h).val _ ⟨rfl,rfl,rfl⟩).2 .nil
   case false =>
    simp only [Bool.false_eq_true,if_false] at hp
    subst hp
    have h3:=HF.out
    have h4:=HL.out
    rw [Bool.or_eq_false_iff,Bool.or_eq_false_iff] at h3
    rcases HKI.out with h | h | h | h | h | h | h
    ·exact any_val h
    ·cases h
    ·rw [show isDo [108,105,115,116] t.dof = false from h4] at h; cases h
    ·rw [show isDo [98,111,111,108] t.dof = false from h3.2.1] at h; cases h
    ·rw [show isDo [117,110,105,116] t.dof = false from h3.2.2] at h; cases h
    ·rw [show isDo [105,110,116] t.dof = false from h3.1] at h; cases h
    ·cases h
 generalize hr : (if tl then Pt.mk dNil emptyS 0 none 0 [] else if tf then Pt.mk t.dof emptyS 0 none 0 [] else anyPt) = r at HVAL
 have HR:=Lib.hid hr
 clear hr
 go_enter Tryz.func88,Tryz.ntmps88
 go_wp2_with fail
 refine Calls.mono (HC.out _ HB.out.below) ?_
 rintro e w1 ⟨rfl,hb1⟩
 have HB1:=Lib.hid (HB.out.next hb1)
 clear hb1 y0 y1 y2
 have tl1:=HB1.out.t.lt
 obtain ⟨y0,y1,y2⟩:=HB1.out.t.three
 have zl:=HB1.out.o.lt
 obtain ⟨z0,z1,z2,z3⟩:=HB1.out.o.four
 have f0:=HB1.out.o.free 0
 have f1:=HB1.out.o.free 1
 have f2:=HB1.out.o.free 2
 have f3:=HB1.out.o.free 3
 cases tl
 case true =>
  go_wp2_with fail
  have hs1 : Sm K w w1:=HV.out.sk.same HB1.out.below
  obtain ⟨hs6,hk6⟩:=four_sm HB1.out.o hs1 (by omega) (.string ⟨#[110,105,108]⟩) (.string ⟨#[]⟩) (.int .i64 0) (.slice none 0 0)
  generalize (((w1.setCell ⟨w.heap.size + 1 + 1,0,none⟩ (.string ⟨#[110,105,108]⟩)).setCell ⟨w.heap.size + 1 + 1,1,none⟩ (.string ⟨#[]⟩)).setCell ⟨w.heap.size + 1 + 1,2,none⟩ (.int .i64 0)).setCell ⟨w.heap.size + 1 + 1,3,none⟩ (.slice none 0 0) = w6 at hs6 hk6 ⊢
  obtain ⟨r0,r1,r2,r3⟩:=hk6.four
  exact bodyPost_ret (v:=Pt.val (Pt.mk dNil emptyS 0 none 0 [])) (by simp [results,Tryz.results88,go_sem,r0,r1,r2,r3,Pt.val,Pt.dof,Pt.name,Pt.num,Pt.at_,Pt.cap,Pt.args,emptyS,dNil]) rfl (okPost (p:=(Pt.mk dNil emptyS 0 none 0 [])) hs6 rfl (flat_in _ _ _ _ _ (by decide) (by decide) (by decide)) (Pt.From.flat ..) (fun _ => HVAL.out _ (by rw [← HR.out]; rfl)))
 case false =>
  cases ti
  case true =>
   simp only [Bool.true_or] at hf
   subst hf
   go_wp2_with fail
   have hs1 : Sm K w w1:=HV.out.sk.same HB1.out.below
   obtain ⟨hs6,hk6⟩:=four_sm HB1.out.o hs1 (by omega) (.string t.dof) (.string ⟨#[]⟩) (.int .i64 0) (.slice none 0 0)
   generalize (((w1.setCell ⟨w.heap.size + 1 + 1,0,none⟩ (.string t.dof)).setCell ⟨w.heap.size + 1 + 1,1,none⟩ (.string ⟨#[]⟩)).setCell ⟨w.heap.size + 1 + 1,2,none⟩ (.int .i64 0)).setCell ⟨w.heap.size + 1 + 1,3,none⟩ (.slice none 0 0) = w6 at hs6 hk6 ⊢
   obtain ⟨r0,r1,r2,r3⟩:=hk6.four
   exact bodyPost_ret (v:=Pt.val (Pt.mk t.dof emptyS 0 none 0 [])) (by simp [results,Tryz.results88,go_sem,r0,r1,r2,r3,Pt.val,Pt.dof,Pt.name,Pt.num,Pt.at_,Pt.cap,Pt.args,emptyS,dNil]) rfl (okPost (p:=(Pt.mk t.dof emptyS 0 none 0 [])) hs6 rfl (flat_in _ _ _ _ _ HD.out (by decide) (by decide)) (Pt.From.flat ..) (fun _ => HVAL.out _ (by rw [← HR.out]; rfl)))
  case false =>
   cases tb
   case true =>
    simp only [Bool.false_or,Bool.true_or] at hf
    subst hf
    go_wp2_with fail
    have hs1 : Sm K w w1:=HV.out.sk.same HB1.out.below
    obtain ⟨hs6,hk6⟩:=four_sm HB1.out.o hs1 (by omega) (.string t.dof) (.string ⟨#[]⟩) (.int .i64 0) (.slice none 0 0)
    generalize (((w1.setCell ⟨w.heap.size + 1 + 1,0,none⟩ (.string t.dof)).setCell ⟨w.heap.size + 1 + 1,1,none⟩ (.string ⟨#[]⟩)).setCell ⟨w.heap.size + 1 + 1,2,none⟩ (.int .i64 0)).setCell ⟨w.heap.size + 1 + 1,3,none⟩ (.slice none 0 0) = w6 at hs6 hk6 ⊢
    obtain ⟨r0,r1,r2,r3⟩:=hk6.four
    exact bodyPost_ret (v:=Pt.val (Pt.mk t.dof emptyS 0 none 0 [])) (by simp [results,Tryz.results88,go_sem,r0,r1,r2,r3,Pt.val,Pt.dof,Pt.name,Pt.num,Pt.at_,Pt.cap,Pt.args,emptyS,dNil]) rfl (okPost (p:=(Pt.mk t.dof emptyS 0 none 0 [])) hs6 rfl (flat_in _ _ _ _ _ HD.out (by decide) (by decide)) (Pt.From.flat ..) (fun _ => HVAL.out _ (by rw [← HR.out]; rfl)))
   case false =>
    cases tu
    case true =>
     simp only [Bool.false_or] at hf
     subst hf
     go_wp2_with fail
     have hs1 : Sm K w w1:=HV.out.sk.same HB1.out.below
     obtain ⟨hs6,hk6⟩:=four_sm HB1.out.o hs1 (by omega) (.string t.dof) (.string ⟨#[]⟩) (.int .i64 0) (.slice none 0 0)
     generalize (((w1.setCell ⟨w.heap.size + 1 + 1,0,none⟩ (.string t.dof)).setCell ⟨w.heap.size + 1 + 1,1,none⟩ (.string ⟨#[]⟩)).setCell ⟨w.heap.size + 1 + 1,2,none⟩ (.int .i64 0)).setCell ⟨w.heap.size + 1 + 1,3,none⟩ (.slice none 0 0) = w6 at hs6 hk6 ⊢
     obtain ⟨r0,r1,r2,r3⟩:=hk6.four
     exact bodyPost_ret (v:=Pt.val (Pt.mk t.dof emptyS 0 none 0 [])) (by simp [results,Tryz.results88,go_sem,r0,r1,r2,r3,Pt.val,Pt.dof,Pt.name,Pt.num,Pt.at_,Pt.cap,Pt.args,emptyS,dNil]) rfl (okPost (p:=(Pt.mk t.dof emptyS 0 none 0 [])) hs6 rfl (flat_in _ _ _ _ _ HD.out (by decide) (by decide)) (Pt.From.flat ..) (fun _ => HVAL.out _ (by rw [← HR.out]; rfl)))
    case false =>
     simp only [Bool.false_or] at hf
     subst hf
     go_wp2_with fail
     have hs1 : Sm K w w1:=HV.out.sk.same HB1.out.below
     obtain ⟨hs6,hk6⟩:=four_sm HB1.out.o hs1 (by omega) (.string ⟨#[97,110,121]⟩) (.string ⟨#[]⟩) (.int .i64 0) (.slice none 0 0)
     generalize (((w1.setCell ⟨w.heap.size + 1 + 1,0,none⟩ (.string ⟨#[97,110,121]⟩)).setCell ⟨w.heap.size + 1 + 1,1,none⟩ (.string ⟨#[]⟩)).setCell ⟨w.heap.size + 1 + 1,2,none⟩ (.int .i64 0)).setCell ⟨w.heap.size + 1 + 1,3,none⟩ (.slice none 0 0) = w6 at hs6 hk6 ⊢
     obtain ⟨r0,r1,r2,r3⟩:=hk6.four
     exact bodyPost_ret (v:=Pt.val anyPt) (by simp [results,Tryz.results88,go_sem,r0,r1,r2,r3,Pt.val,Pt.dof,Pt.name,Pt.num,Pt.at_,Pt.cap,Pt.args,emptyS,dNil,anyPt]) rfl (okPost (p:=anyPt) hs6 rfl (anyPt_in _ _) (Pt.From.any _) (fun _ => HVAL.out _ (by rw [← HR.out]; rfl)))
end Go.Proofs.YtjeggkfgdhepaaaGreatDoor

namespace Go.Proofs.YtjeggkfgdhepaaaGreatDoor
open Go.RowKit
open Go.Proofs
open Go.Maps
theorem pats_blk {w : World} {g : Nat} {T : TypeId} {cs : Array Value} (ps : List Pt) (h : Blk w g cs T) (hc : cs = ((ps.map Pt.cells).flatten).toArray) : RowAt w.heap.size w 4 (some ⟨g,0,none⟩) (ps.map Pt.cells):=by
 intro _
 refine ⟨g,0,rfl,h.lt,fun i x hi j v hj => ?_⟩
 rw [h.cell,hc,List.getElem?_toArray,Nat.zero_add]
 exact flat4 ps i x j v hi hj
def ValueC (K : Sk) (l : List Dt) (L : List (ByteArray × Value)) (t : Ty) : Prop:=
 ∀ w : World,okT l t → t.In w.heap.size w → VEnv K l L w → (nodesN (numL L) t).2 = true → Calls Tryz.prog 88 #[K.val,t.val] w (ValuePost K l t w)
def SVP (bs bt : Nat) (K : Sk) (b1 o1 tc : Nat) (t0 t1 : Ty) (W : World) : Prop:=
 W.cell? ⟨bs,0,none⟩ = some (.pointer (some ⟨K.b,0,none⟩)) ∧ bs < W.heap.size ∧ W.cell? ⟨bt,2,none⟩ = some (.slice (some ⟨b1,o1,none⟩) 2 tc) ∧ bt < W.heap.size ∧ b1 < W.heap.size ∧
 (W.cell? ⟨b1,o1,none⟩ = some (.string t0.dof) ∧ W.cell? ⟨b1,o1 + 1,none⟩ = some (.string t0.name) ∧ W.cell? ⟨b1,o1 + 2,none⟩ = some (.slice t0.at_ t0.args.length t0.cap) ∧
 W.cell? ⟨b1,o1 + 3,none⟩ = some (.string t1.dof) ∧ W.cell? ⟨b1,o1 + 4,none⟩ = some (.string t1.name) ∧ W.cell? ⟨b1,o1 + 5,none⟩ = some (.slice t1.at_ t1.args.length t1.cap))
theorem VBox.sm {K : Sk} {t : Ty} {w W W1 : World} (h : VBox K t w W) (hs : Sm K W W1) : Blk W1 w.heap.size #[K.val] 82 ∧ Blk W1 (w.heap.size + 1) #[.string t.dof,.string t.name,.slice t.at_ t.args.length t.cap] 25 ∧ Blk W1 (w.heap.size + 1 + 1) #[.string emptyS,.string emptyS,.int .i64 0,.slice none 0 0] 28:=
 ⟨hs.blk h.s (by decide),hs.blk h.t (by decide),hs.blk h.o (by decide)⟩
theorem pair_nodes {l : List Dt} {N : Nums} (hN : NumsOk N) {d n : ByteArray} {A : Option Addr} {c : Nat} {t0 t1 : Ty} (hd : isDo [112,97,105,114] d = true) (h2 : (nodesN N (.mk d n A c [t0,t1])).2 = true) (h1 : (nodesN N (.mk d n A c [t0,t1])).1 ≤ 2000) :
  (nodesN N t0).2 = true ∧ (nodesN N t1).2 = true ∧ (nodesN N t0).1 < (nodesN N (.mk d n A c [t0,t1])).1 ∧ (nodesN N t1).1 < (nodesN N (.mk d n A c [t0,t1])).1:=by
 rw [nodesN_mk,hd] at h1 h2 ⊢
 simp only [if_true,List.map_cons,List.map_nil,Bool.and_eq_true] at h1 h2 ⊢
 have r0:=nodesN_range hN t0
 have r1:=nodesN_range hN t1
 exact ⟨h2.1,h2.2,by omega,by omega⟩
set_option maxRecDepth 100000 in
set_option maxHeartbeats 8000000 in
theorem value_pair (K : Sk) (l : List Dt) (L : List (ByteArray × Value)) (d n : ByteArray) (A : Option Addr) (c : Nat) (t0 t1 : Ty) (w : World) (hc0 : ValueC K l L t0) (hc1 : ValueC K l L t1) (ht : okT l (.mk d n A c [t0,t1])) (hin : (Ty.mk d n A c [t0,t1]).In w.heap.size w) (hv : VEnv K l L w)
  (hok : (nodesN (numL L) (.mk d n A c [t0,t1])).2 = true) (hsm : (nodesN (numL L) (.mk d n A c [t0,t1])).1 ≤ 2000) (h1 : isDo [112,97,105,114] d = true) :
  Calls Tryz.prog 88 #[K.val,(Ty.mk d n A c [t0,t1]).val] w (ValuePost K l (.mk d n A c [t0,t1]) w):=by
 have HC:=Lib.hid (fun (W : World) (hW : Below w.heap.size w W) => nodes_any K l L (.mk d n A c [t0,t1]) W ht (hin.next hW) (hv.sk.next hW))
 have HV:=Lib.hid hv
 have HB:=Lib.hid (VBox.mk0 K (.mk d n A c [t0,t1]) w)
 have hnd:=pair_nodes (l:=l) (numsOk hv.sk.vals) h1 hok hsm
 have hoa:=okT_args ht
 obtain ⟨-,-,-,-,hrow,hall⟩:=Ty.In_mk.1 hin
 have HV0:=Lib.hid (fun (W : World) (hW : Sm K w W) => hc0 W (hoa t0 (by simp [Ty.args])) (hW.wide_ty (hall t0 (by simp))) (hv.sm hW) hnd.1)
 have HV1:=Lib.hid (fun (W : World) (hW : Sm K w W) => hc1 W (hoa t1 (by simp [Ty.args])) (hW.wide_ty (hall t1 (by simp))) (hv.sm hW) hnd.2.1)
 obtain ⟨b1,o1,rfl,hb1,-⟩:=two_tys hrow
 have HTC:=Lib.hid (fun (W : World) (hW : Sm K w W) => (show b1 < W.heap.size ∧ (W.cell? ⟨b1,o1,none⟩ = some (.string t0.dof) ∧ W.cell? ⟨b1,o1 + 1,none⟩ = some (.string t0.name) ∧ W.cell? ⟨b1,o1 + 2,none⟩ = some (.slice t0.at_ t0.args.length t0.cap) ∧
   W.cell? ⟨b1,o1 + 3,none⟩ = some (.string t1.dof) ∧ W.cell? ⟨b1,o1 + 4,none⟩ = some (.string t1.name) ∧ W.cell? ⟨b1,o1 + 5,none⟩ = some (.slice t1.at_ t1.args.length t1.cap)) by
  obtain ⟨b2,o2,he,hb2,hc⟩:=two_tys (hW.row (Nat.le_refl _) (ty_text [t0,t1]) hrow)
  simp only [Option.some.injEq,Addr.mk.injEq,and_true] at he
  obtain ⟨rfl,rfl⟩:=he
  exact ⟨Nat.lt_of_lt_of_le hb2 hW.size,hc W (Below.refl _ _)⟩))
 have HFORM:=Lib.hid (form_pair ht h1)
 generalize hn : nodesN (numL L) (.mk d n (some ⟨b1,o1,none⟩) c [t0,t1]) = a at HC hsm
 obtain ⟨x,ok⟩:=a
 simp only at HC hsm
 unfold isDo at h1
 clear hin ht hv hn hc0 hc1 hnd hoa hrow hall hok
 unfold vBox at HB
 unfold Ty.val Sk.val at *
 simp only [Ty.dof,Ty.name,Ty.at_,Ty.cap,Ty.args,List.length_cons,List.length_nil,Nat.zero_add,Nat.reduceAdd] at HB HC ⊢
 obtain ⟨y0,y1,y2⟩:=HB.out.t.three
 simp only [Ty.dof,Ty.name,Ty.at_,Ty.cap,Ty.args,List.length_cons,List.length_nil,Nat.zero_add,Nat.reduceAdd] at y0 y1 y2
 go_enter Tryz.func88,Tryz.ntmps88
 go_wp2_with fail
 refine Calls.mono (HC.out _ HB.out.below) ?_
 rintro e w1 ⟨rfl,hb1'⟩
 have HB1:=Lib.hid (HB.out.next hb1')
 have HS1:=Lib.hid (HV.out.sk.same HB1.out.below)
 clear hb1' y0 y1 y2
 have tl1:=HB1.out.t.lt
 obtain ⟨y0,y1,y2⟩:=HB1.out.t.three
 simp only [Ty.dof,Ty.name,Ty.at_,Ty.cap,Ty.args,List.length_cons,List.length_nil,Nat.zero_add,Nat.reduceAdd] at y0 y1 y2
 have HBOX:=Lib.hid (fun (W : World) (hW : Sm K w1 W) => (show SVP w.heap.size (w.heap.size + 1) K b1 o1 c t0 t1 W by
  obtain ⟨k1,k2,-⟩:=HB1.out.sm hW
  have h3:=HTC.out W (HS1.out.trans hW)
  exact ⟨k1.cell 0,k1.lt,k2.cell 2,k2.lt,h3.1,h3.2⟩))
 go_wp2_with fail
 obtain ⟨f,hf⟩:=(HV.out.sk.sm HS1.out).blk
 have HD:=Lib.hid (Sm.of_below hf (Below.refl _ w1).drew)
 clear hf
 refine region_mix (SVP w.heap.size (w.heap.size + 1) K b1 o1 c t0 t1) [(0,true),(1,true),(2,true),(3,true),(4,true),(6,true),(7,true),(8,true),(9,true),(10,true),(5,false),(11,false),(12,false),(13,false),(14,false)] 12 (by kernel_rfl) (by kernel_rfl) (HBOX.out _ HD.out) ?_
 simp only [pickM,List.filterMap_cons,List.getElem?_cons_zero,List.getElem?_cons_succ,List.filterMap_nil,Option.map_some]
 iterate 10
  refine wpMix_read ?_ (by rfl) (fun W hW => ?_) ?_
  rotate_left
  ·unfold SVP at hW
   go_simp
   try with_reducible rfl
  simp only [Act.put,List.setIfInBounds_toArray,List.set_cons_zero,List.set_cons_succ]
 refine wpMix_stepw (by rfl) (fun K9 hK => ?_)
 go_simp
 refine Calls.mono (HV0.out _ (HS1.out.trans HD.out)) ?_
 rintro e w2 ⟨hs2,p0,rfl,hp0,hfr0,hval0⟩
 have HS2:=Lib.hid hs2
 have HP0:=Lib.hid hp0
 have HFR0:=Lib.hid hfr0
 have HVAL0:=Lib.hid hval0
 have HD2:=Lib.hid (HD.out.trans HS2.out)
 clear hs2 hp0 hval0 hfr0
 refine hK _ _ (fun _ => HBOX.out _ HD2.out) ?_
 clear hK K9
 refine wpMix_stepw (by rfl) (fun K9 hK => ?_)
 go_simp
 refine Calls.mono (HV1.out _ (HS1.out.trans HD2.out)) ?_
 rintro e w3 ⟨hs3,p1,rfl,hp1,hfr1,hval1⟩
 have HS3:=Lib.hid hs3
 have HP1:=Lib.hid hp1
 have HFR1:=Lib.hid hfr1
 have HVAL1:=Lib.hid hval1
 have HD3:=Lib.hid (HD2.out.trans HS3.out)
 clear hs3 hp1 hval1 hfr1
 refine hK _ _ (fun _ => HBOX.out _ HD3.out) ?_
 clear hK K9
 unfold Pt.val
 have zl:=(HB1.out.sm HD3.out).2.2.lt
 obtain ⟨z0,z1,z2,z3⟩:=(HB1.out.sm HD3.out).2.2.four
 have f0:=(HB1.out.sm HD3.out).2.2.free 0
 have f1:=(HB1.out.sm HD3.out).2.2.free 1
 have f2:=(HB1.out.sm HD3.out).2.2.free 2
 have f3:=(HB1.out.sm HD3.out).2.2.free 3
 iterate 2
  refine wpMix_step rfl (fun K9 hK => ?_)
  go_simp
  refine hK _ _ (fun h => absurd h (by decide)) ?_
  clear hK K9
 refine wpMix_step rfl (fun K9 hK => ?_)
 go_simp
 refine hK _ _ (fun h => absurd h (by decide)) ?_
 clear hK K9
 refine wpMix_nil ?_
 refine NoPanic.normal ?_
 go_wp2_with fail
 have hs3 : Sm K w w3:=HS1.out.trans HD3.out
 have hlt3 : w.heap.size + 1 + 1 < w3.heap.size:=zl
 obtain ⟨hs6,hk6⟩:=four_sm (HB1.out.sm HD3.out).2.2 hs3 (by omega) (.string ⟨#[112,97,105,114]⟩) (.string ⟨#[]⟩) (.int .i64 0) (.slice (some ⟨w3.heap.size,0,none⟩) 2 2)
 have hsz : ((((w3.setCell ⟨w.heap.size + 1 + 1,0,none⟩ (.string ⟨#[112,97,105,114]⟩)).setCell ⟨w.heap.size + 1 + 1,1,none⟩ (.string ⟨#[]⟩)).setCell ⟨w.heap.size + 1 + 1,2,none⟩ (.int .i64 0)).setCell ⟨w.heap.size + 1 + 1,3,none⟩ (.slice (some ⟨w3.heap.size,0,none⟩) 2 2)).heap.size = w3.heap.size:=by simp [World.setCell]
 have hkeep : ∀ k,k ≠ w.heap.size + 1 + 1 → ((((w3.setCell ⟨w.heap.size + 1 + 1,0,none⟩ (.string ⟨#[112,97,105,114]⟩)).setCell ⟨w.heap.size + 1 + 1,1,none⟩ (.string ⟨#[]⟩)).setCell ⟨w.heap.size + 1 + 1,2,none⟩ (.int .i64 0)).setCell ⟨w.heap.size + 1 + 1,3,none⟩ (.slice (some ⟨w3.heap.size,0,none⟩) 2 2)).heap[k]? = w3.heap[k]?:=fun k hk =>
  ((((Below.heap_setCell _ _ _ _ hk).trans (Below.heap_setCell _ _ _ _ hk)).trans (Below.heap_setCell _ _ _ _ hk)).trans (Below.heap_setCell _ _ _ _ hk))
 generalize ((((w3.setCell ⟨w.heap.size + 1 + 1,0,none⟩ (.string ⟨#[112,97,105,114]⟩)).setCell ⟨w.heap.size + 1 + 1,1,none⟩ (.string ⟨#[]⟩)).setCell ⟨w.heap.size + 1 + 1,2,none⟩ (.int .i64 0)).setCell ⟨w.heap.size + 1 + 1,3,none⟩ (.slice (some ⟨w3.heap.size,0,none⟩) 2 2)) = w6 at hs6 hk6 hsz hkeep ⊢
 obtain ⟨f6,hf6⟩:=(HV.out.sk.sm hs6).blk
 have hb7 : Below w6.heap.size w6 (w6.alloc (.cells #[.string p0.dof,.string p0.name,.int .i64 p0.num,.slice p0.at_ p0.args.length p0.cap,.string p1.dof,.string p1.name,.int .i64 p1.num,.slice p1.at_ p1.args.length p1.cap] 28)):=(Below.refl _ _).alloc (Nat.le_refl _) _
 have hk7:=hk6.below hb7 hk6.lt
 have hs7:=hs6.then hb7
 have hrow:=pats_blk [p0,p1] (Blk.new' w6 #[.string p0.dof,.string p0.name,.int .i64 p0.num,.slice p0.at_ p0.args.length p0.cap,.string p1.dof,.string p1.name,.int .i64 p1.num,.slice p1.at_ p1.args.length p1.cap] 28 w3.heap.size hsz.symm) rfl
 have ho1:=HB1.out.o.lt
 have hsm : w1.heap.size ≤ w2.heap.size:=HD2.out.size
 have hsm3 : w2.heap.size ≤ w3.heap.size:=HS3.out.size
 have hkb : K.b < w.heap.size:=HV.out.sk.lt
 have hp0 : p0.In (w6.alloc (.cells #[.string p0.dof,.string p0.name,.int .i64 p0.num,.slice p0.at_ p0.args.length p0.cap,.string p1.dof,.string p1.name,.int .i64 p1.num,.slice p1.at_ p1.args.length p1.cap] 28)).heap.size (w6.alloc (.cells #[.string p0.dof,.string p0.name,.int .i64 p0.num,.slice p0.at_ p0.args.length p0.cap,.string p1.dof,.string p1.name,.int .i64 p1.num,.slice p1.at_ p1.args.length p1.cap] 28)):=
  Pt.In.next (Pt.In.moved (B0:=w1.heap.size) (fun k h1 h2 => (hkeep k (by omega)).trans (HS3.out.block k h2 (by omega))) (by omega) p0 HP0.out (Pt.From.less (Nat.le_of_eq rfl) p0 HFR0.out)) hb7
 have hp1 : p1.In (w6.alloc (.cells #[.string p0.dof,.string p0.name,.int .i64 p0.num,.slice p0.at_ p0.args.length p0.cap,.string p1.dof,.string p1.name,.int .i64 p1.num,.slice p1.at_ p1.args.length p1.cap] 28)).heap.size (w6.alloc (.cells #[.string p0.dof,.string p0.name,.int .i64 p0.num,.slice p0.at_ p0.args.length p0.cap,.string p1.dof,.string p1.name,.int .i64 p1.num,.slice p1.at_ p1.args.length p1.cap] 28)):=
  Pt.In.next (Pt.In.moved (B0:=w2.heap.size) (fun k h1 h2 => hkeep k (by omega)) (by omega) p1 HP1.out HFR1.out) hb7
 have hop : Open_ K (w6.alloc (.cells #[.string p0.dof,.string p0.name,.int .i64 p0.num,.slice p0.at_ p0.args.length p0.cap,.string p1.dof,.string p1.name,.int .i64 p1.num,.slice p1.at_ p1.args.length p1.cap] 28)) → Open_ K w3:=fun h => by
  have h6 : Open_ K w6:=(Sm.of_below hf6 hb7).back h
  unfold Open_ Blk at h6 ⊢
  rw [hkeep K.b (by omega)] at h6
  exact h6
 generalize w6.alloc (.cells #[.string p0.dof,.string p0.name,.int .i64 p0.num,.slice p0.at_ p0.args.length p0.cap,.string p1.dof,.string p1.name,.int .i64 p1.num,.slice p1.at_ p1.args.length p1.cap] 28) = w7 at hk7 hs7 hrow hp0 hp1 hop ⊢
 obtain ⟨r0,r1,r2,r3⟩:=hk7.four
 exact bodyPost_ret (v:=(Pt.mk dPair emptyS 0 (some ⟨w3.heap.size,0,none⟩) 2 [p0,p1]).val) (by simp [results,Tryz.results88,go_sem,r0,r1,r2,r3,Pt.val,Pt.dof,Pt.name,Pt.num,Pt.at_,Pt.cap,Pt.args,emptyS,dPair]) rfl
  (okPost (p:=.mk dPair emptyS 0 (some ⟨w3.heap.size,0,none⟩) 2 [p0,p1]) hs7 rfl (Pt.In_mk.2 ⟨by decide,by decide,by decide,by simp,⟨by simp,fun h => (by cases h)⟩,hrow,by simp [hp0,hp1]⟩)
   (Pt.From_mk.2 ⟨fun _ => ⟨_,_,rfl,by omega⟩,by
    have g0:=Pt.From.less (B':=w.heap.size) (by have : w1.drew.heap.size = w1.heap.size:=rfl; omega) p0 HFR0.out
    have g1:=Pt.From.less (B':=w.heap.size) (by omega) p1 HFR1.out
    simp [g0,g1]⟩)
   (fun h => (HFORM.out.val _ ⟨rfl,rfl,rfl⟩).2 (vals_two.2 ⟨HVAL0.out (HS3.out.back (hop h)),HVAL1.out (hop h)⟩)))
end Go.Proofs.YtjeggkfgdhepaaaGreatDoor

namespace Go.Proofs.YtjeggkfgdhepaaaGreatDoor
open Go.RowKit
open Go.Proofs
open Go.Maps
def SVD (bs bt : Nat) (K : Sk) (s : ByteArray) (v : Value) (W : World) : Prop:=
 W.cell? ⟨bs,0,none⟩ = some (.pointer (some ⟨K.b,0,none⟩)) ∧ bs < W.heap.size ∧ W.cell? ⟨bt,1,none⟩ = some (.string s) ∧ bt < W.heap.size ∧ W.cell? ⟨K.b,0,none⟩ = some (.map (some K.bD)) ∧ K.b < W.heap.size ∧ (Instr.lookup 59 (.map (some K.bD)) (.string s) false).run Tryz.prog W = .ok v W
theorem takes_num {N : Nums} {n : ByteArray} {m : Int} (hn : N n = some m) {c : Cn} (h : takes N n c = true) : (conN N c).2 = true ∧ (conN N c).1 = m:=by
 unfold takes numOr at h
 rw [hn] at h
 simpa using h
theorem con_less {N : Nums} {m : Int} {c : Cn} (hm : m ≤ 2000) (hh : c.has = true) (h : (conN N c).2 = true ∧ (conN N c).1 = m) : (nodesN N c.ty).2 = true ∧ (nodesN N c.ty).1 < m:=by
 unfold conN at h
 rw [hh] at h
 simp only [if_true] at h
 exact ⟨h.1,by omega⟩
set_option maxRecDepth 100000 in
set_option maxHeartbeats 8000000 in
theorem value_data (K : Sk) (l : List Dt) (L : List (ByteArray × Value)) (t : Ty) (w : World) (hr : Right l) (hmet : Met l (numL L)) (hc : ∀ cn : Cn,(nodesN (numL L) cn.ty).1 < (nodesN (numL L) t).1 → ValueC K l L cn.ty) (ht : okT l t) (hin : t.In w.heap.size w) (hv : VEnv K l L w)
  (hok : (nodesN (numL L) t).2 = true) (hsm : (nodesN (numL L) t).1 ≤ 2000) (h1 : isDo [100,97,116,97] t.dof = true) :
  Calls Tryz.prog 88 #[K.val,t.val] w (ValuePost K l t w):=by
 obtain ⟨dt,hdm,hdn,hdc⟩:=known_data ht h1
 have hsz : t.name.size ≤ 1099511627776:=by
  obtain ⟨d9,n9,a9,c9,l9⟩:=t
  exact (Ty.In_mk.1 hin).2.1
 obtain ⟨m,hm,hnt⟩ : ∃ m,numL L t.name = some m ∧ nodesN (numL L) t = (m,true):=by
  obtain ⟨d9,n9,a9,c9,l9⟩:=t
  rw [nodesN_mk] at hok ⊢
  simp only [Ty.dof,Ty.name] at h1 ⊢
  have hnp : isDo [112,97,105,114] d9 = false:=by
   cases hx : isDo [112,97,105,114] d9 with
   | false => rfl
   | true => exact absurd (do_clash hx h1) (by decide)
  rw [hnp,h1] at hok ⊢
  simp only [Bool.false_eq_true,if_false,if_true] at hok ⊢
  cases hx : numL L n9 with
  | none => rw [hx] at hok; cases hok
  | some m => exact ⟨m,rfl,rfl⟩
 rw [hnt] at hsm hc
 simp only at hsm hc
 have HV:=Lib.hid hv
 have HLEN:=Lib.hid (hv.dts dt hdm).2
 have hlen:=HLEN.out
 have HT:=Lib.hid ht
 have hcs:=(hr.cons dt hdm).2
 have hex : ∃ cn ∈ dt.cons,takes (numL L) t.name cn = true:=by
  obtain ⟨cn,hcn,he⟩:=hmet dt hdm m (by rw [hdn]; exact hm)
  refine ⟨cn,hcn, ?_⟩
  unfold takes numOr
  rw [hm,he]
  simp
 have HCC:=Lib.hid (fun (cn : Cn) (hcn : cn ∈ dt.cons) (hh : cn.has = true) (ht : takes (numL L) t.name cn = true) (W : World) (hW : Sm K w W) => by
  have h9:=con_less hsm hh (takes_num hm ht)
  exact hc cn h9.2 W ((hcs cn hcn).2 hh) ((hW.wide_dt (hv.dts dt hdm).1).2.2.2.2 cn hcn).2 (hv.sm hW) h9.1)
 have HIDX:=Lib.hid (fun (W : World) (hW : Below w.heap.size w W) (bs bt : Nat) (tv : Value) (h1 : Blk W bs #[K.val] 82) (h2 : Blk W bt #[.string t.dof,.string t.name,tv] 25) => valueIdx_any K l L dt.cons dt.at_ dt.cap bs bt t.dof t.name tv W (fun cn hcn => (hcs cn hcn).2) (fun cn hcn => ((hv.next hW).dts dt hdm).1.2.2.2.2 cn hcn)
  ((hv.next hW).dts dt hdm).1.2.2.2.1 (hv.dts dt hdm).2 (hv.next hW).sk h1 h2 hsz hex)
 have HC:=Lib.hid (fun (W : World) (hW : Below w.heap.size w W) => nodes_any K l L t W ht (hin.next hW) (hv.sk.next hW))
 have HB:=Lib.hid (VBox.mk0 K t w)
 have hz : ∀ W,(zeroValue 111).run Tryz.prog W = .ok zDt W:=zeroDt
 have HLOOK:=Lib.hid (fun (W : World) (hW : Below w.heap.size w W) => (show W.cell? ⟨K.b,0,none⟩ = some (.map (some K.bD)) ∧ K.b < W.heap.size ∧ (Instr.lookup 59 (.map (some K.bD)) (.string t.name) false).run Tryz.prog W = .ok (.agg #[.string dt.name,.slice dt.at_ dt.cons.length dt.cap]) W by
  have hs:=hv.sk.next hW
  obtain ⟨f,hf⟩:=hs.blk
  refine ⟨hf.cell 0,hf.lt, ?_⟩
  have h9:=map_look_gen false Tryz.underlying59 (hz W) hs.d t.name hsz
  rw [← hdn,look_dt hr.names hdm] at h9
  rw [← hdn]
  exact h9))
 have HROW:=Lib.hid (fun (W : World) (hW : Below w.heap.size w W) => ((hv.next hW).dts dt hdm).1.2.2.2.1)
 have HFORM:=Lib.hid (fun (cn : Cn) (hcn : cn ∈ dt.cons) => form_con hr (t:=t) h1 (c:=cn) (by rw [hdc]; exact hcn))
 have HNAME:=Lib.hid (fun (cn : Cn) (hcn : cn ∈ dt.cons) => ((hv.dts dt hdm).1.2.2.2.2 cn hcn).1)
 rw [hnt] at HC
 have hb : (t.dof.toList == [100,97,116,97]) = true:=h1
 have g1:=do_other (b:=[112,97,105,114]) hb (by decide)
 clear hin ht hv hc hr hmet hok h1 hdc hm hcs hex hz hnt
 unfold Ty.val Sk.val at *
 unfold vBox at HB
 obtain ⟨y0,y1,y2⟩:=HB.out.t.three
 go_enter Tryz.func88,Tryz.ntmps88
 go_wp2_with fail
 refine Calls.mono (HC.out _ HB.out.below) ?_
 rintro e w1 ⟨rfl,hb1'⟩
 have HB1:=Lib.hid (HB.out.next hb1')
 clear hb1' y0 y1 y2
 have tl1:=HB1.out.t.lt
 obtain ⟨y0,y1,y2⟩:=HB1.out.t.three
 have HBOX:=Lib.hid (show SVD w.heap.size (w.heap.size + 1) K t.name (.agg #[.string dt.name,.slice dt.at_ dt.cons.length dt.cap]) w1.drew by
  have k1:=HB1.out.s
  have k2:=HB1.out.t
  have h3:=HLOOK.out _ HB1.out.below.drew
  exact ⟨k1.cell 0,k1.lt,k2.cell 1,k2.lt,h3.1,h3.2.1,h3.2.2⟩)
 go_wp2_with fail
 refine region_mix (SVD w.heap.size (w.heap.size + 1) K t.name (.agg #[.string dt.name,.slice dt.at_ dt.cons.length dt.cap])) [(0,true),(1,true),(2,true),(3,true),(4,true),(5,true),(6,true),(7,true),(8,true),(9,true)] 10 (by kernel_rfl) (by kernel_rfl) HBOX.out ?_
 simp only [pickM,List.filterMap_cons,List.getElem?_cons_zero,List.getElem?_cons_succ,List.filterMap_nil,Option.map_some]
 iterate 8
  refine wpMix_read ?_ (by rfl) (fun W hW => ?_) ?_
  rotate_left
  ·unfold SVD at hW
   go_simp
   try with_reducible rfl
  simp only [Act.put,List.setIfInBounds_toArray,List.set_cons_zero,List.set_cons_succ]
 refine wpMix_read (.slice dt.at_ dt.cons.length dt.cap) (by rfl) (fun W hW => rfl) ?_
 simp only [Act.put,List.setIfInBounds_toArray,List.set_cons_zero,List.set_cons_succ]
 refine wpMix_read (.slice dt.at_ dt.cons.length dt.cap) (by rfl) (fun W hW => rfl) ?_
 simp only [Act.put,List.setIfInBounds_toArray,List.set_cons_zero,List.set_cons_succ]
 refine wpMix_nil ?_
 refine NoPanic.normal ?_
 clear HBOX
 have HB2:=Lib.hid (HB1.out.next (Below.refl _ w1).drew)
 clear y0 y1 y2 tl1
 generalize w1.drew = w2 at HB2 ⊢
 go_wp2_with fail
 refine Calls.mono (HIDX.out _ HB2.out.below _ _ _ HB2.out.s HB2.out.t) ?_
 rintro e w3 ⟨hb3,i,cn,rfl,hcn,htk⟩
 have HB3:=Lib.hid (HB2.out.next hb3)
 have hlt : i < dt.cons.length:=(List.getElem?_eq_some_iff.1 hcn).1
 obtain ⟨q,b5,off5,hq,hmem,hat,hb5,x0,x1,x2,x3,x4⟩:=Cn.arg_at (HROW.out w3 HB3.out.below) (Below.refl _ _) hlt
 rw [hcn] at hq
 simp only [Option.some.injEq] at hq
 subst hq
 rw [hat]
 have HTK:=Lib.hid htk
 have HMEM:=Lib.hid hmem
 have HAT:=Lib.hid hat
 clear hb3 hcn htk hmem hat
 have tl3:=HB3.out.t.lt
 have zl:=HB3.out.o.lt
 obtain ⟨z0,z1,z2,z3⟩:=HB3.out.o.four
 have f0:=HB3.out.o.free 0
 have f1:=HB3.out.o.free 1
 have f2:=HB3.out.o.free 2
 have f3:=HB3.out.o.free 3
 have s0:=HB3.out.s.cell 0
 have s1:=HB3.out.s.lt
 unfold Sk.val at s0
 simp only [List.getElem?_toArray,List.getElem?_cons_zero] at s0
 cases hh : cn.has
 case false =>
  rw [hh] at x1
  have HH:=Lib.hid hh
  clear hh
  go_wp2_with fail
  have hs3 : Sm K w w3:=HV.out.sk.same HB3.out.below
  obtain ⟨hs6,hk6⟩:=four_sm HB3.out.o hs3 (by omega) (.string ⟨#[99,111,110]⟩) (.string cn.name) (.int .i64 0) (.slice none 0 0)
  generalize ((((w3.setCell ⟨w.heap.size + 1 + 1,0,none⟩ (.string ⟨#[99,111,110]⟩)).setCell ⟨w.heap.size + 1 + 1,1,none⟩ (.string cn.name)).setCell ⟨w.heap.size + 1 + 1,2,none⟩ (.int .i64 0)).setCell ⟨w.heap.size + 1 + 1,3,none⟩ (.slice none 0 0)) = w6 at hs6 hk6 ⊢
  have hb7 : Below w6.heap.size w6 ((w6.alloc (.cells #[.string cn.name,.bool false,.string cn.ty.dof,.string cn.ty.name,.slice cn.ty.at_ cn.ty.args.length cn.ty.cap] 117)).alloc (.cells #[.string ⟨#[99,111,110]⟩,.string cn.name,.int .i64 0,.slice none 0 0] 28)):=((Below.refl w6.heap.size w6).alloc (Nat.le_refl _) _).alloc (by simp) _
  have hk7:=hk6.below hb7 hk6.lt
  have hs7:=hs6.then hb7
  generalize (w6.alloc (.cells #[.string cn.name,.bool false,.string cn.ty.dof,.string cn.ty.name,.slice cn.ty.at_ cn.ty.args.length cn.ty.cap] 117)).alloc (.cells #[.string ⟨#[99,111,110]⟩,.string cn.name,.int .i64 0,.slice none 0 0] 28) = w7 at hk7 hs7 ⊢
  obtain ⟨r0,r1,r2,r3⟩:=hk7.four
  exact bodyPost_ret (v:=(Pt.mk dCon cn.name 0 none 0 []).val) (by simp [results,Tryz.results88,go_sem,r0,r1,r2,r3,Pt.val,Pt.dof,Pt.name,Pt.num,Pt.at_,Pt.cap,Pt.args,dCon]) rfl
   (okPost (p:=.mk dCon cn.name 0 none 0 []) hs7 rfl (flat_in _ _ _ _ _ (by decide) (HNAME.out cn HMEM.out) (by decide)) (Pt.From.flat ..)
    (fun _ => ((HFORM.out cn HMEM.out).val _ ⟨rfl,rfl,rfl⟩).2 (by unfold conForm; rw [HH.out]; exact .nil)))
 case true =>
  rw [hh] at x1
  have HH:=Lib.hid hh
  clear hh
  go_wp2_with fail
  have HB4:=Lib.hid (HB3.out.next (((Below.refl w3.heap.size w3).alloc (Nat.le_refl _) (.cells #[.string cn.name,.bool true,.string cn.ty.dof,.string cn.ty.name,.slice cn.ty.at_ cn.ty.args.length cn.ty.cap] 117)).alloc (by simp) (.cells #[.string ⟨#[99,111,110]⟩,.string cn.name,.int .i64 0,.slice none 0 0] 28)))
  have HKP:=Lib.hid (Blk.new' (w3.alloc (.cells #[.string cn.name,.bool true,.string cn.ty.dof,.string cn.ty.name,.slice cn.ty.at_ cn.ty.args.length cn.ty.cap] 117)) #[.string ⟨#[99,111,110]⟩,.string cn.name,.int .i64 0,.slice none 0 0] 28 (w3.heap.size + 1) (by simp))
  have HN4:=Lib.hid (show ((w3.alloc (.cells #[.string cn.name,.bool true,.string cn.ty.dof,.string cn.ty.name,.slice cn.ty.at_ cn.ty.args.length cn.ty.cap] 117)).alloc (.cells #[.string ⟨#[99,111,110]⟩,.string cn.name,.int .i64 0,.slice none 0 0] 28)).heap.size = w3.heap.size + 1 + 1 by simp)
  clear z0 z1 z2 z3 f0 f1 f2 f3 s0 s1 zl tl3 x0 x1 x2 x3 x4
  generalize (w3.alloc (.cells #[.string cn.name,.bool true,.string cn.ty.dof,.string cn.ty.name,.slice cn.ty.at_ cn.ty.args.length cn.ty.cap] 117)).alloc (.cells #[.string ⟨#[99,111,110]⟩,.string cn.name,.int .i64 0,.slice none 0 0] 28) = w4 at HB4 HKP HN4 ⊢
  have HS4:=Lib.hid (HV.out.sk.same HB4.out.below)
  refine Calls.mono (HCC.out cn HMEM.out HH.out HTK.out w4 HS4.out) ?_
  rintro e w5 ⟨hs5,p,rfl,hp,hfr,hval⟩
  have HS5:=Lib.hid hs5
  have HP:=Lib.hid hp
  have HFR:=Lib.hid hfr
  have HVAL:=Lib.hid hval
  have HKP5:=Lib.hid (hs5.blk HKP.out (by decide))
  have HO5:=Lib.hid (HB4.out.sm hs5).2.2
  clear hs5 hp hfr hval
  unfold Pt.val
  have ol:=HO5.out.lt
  obtain ⟨z0,z1,z2,z3⟩:=HO5.out.four
  have f0:=HO5.out.free 0
  have f1:=HO5.out.free 1
  have f2:=HO5.out.free 2
  have f3:=HO5.out.free 3
  have pl:=HKP5.out.lt
  obtain ⟨q0,q1,q2,q3⟩:=HKP5.out.four
  have d3:=HKP5.out.free 3
  have hlt0:=HB3.out.o.lt
  have hne : w3.heap.size + 1 ≠ w.heap.size + 1 + 1:=by omega
  go_wp2_with fail
  have hs5 : Sm K w w5:=HS4.out.trans HS5.out
  have hw3:=HB3.out.below.size
  obtain ⟨hs6,hk6⟩:=four_sm (HO5.out.far (a:=⟨w3.heap.size + 1,3,none⟩) hne.symm (.slice (some ⟨w5.heap.size,0,none⟩) 1 1)) (hs5.set (b:=w3.heap.size + 1) (by omega) 3 (.slice (some ⟨w5.heap.size,0,none⟩) 1 1)) (by omega) (.string ⟨#[99,111,110]⟩) (.string cn.name) (.int .i64 0) (.slice (some ⟨w5.heap.size,0,none⟩) 1 1)
  have hsz : (((((w5.setCell ⟨w3.heap.size + 1,3,none⟩ (.slice (some ⟨w5.heap.size,0,none⟩) 1 1)).setCell ⟨w.heap.size + 1 + 1,0,none⟩ (.string ⟨#[99,111,110]⟩)).setCell ⟨w.heap.size + 1 + 1,1,none⟩ (.string cn.name)).setCell ⟨w.heap.size + 1 + 1,2,none⟩ (.int .i64 0)).setCell ⟨w.heap.size + 1 + 1,3,none⟩ (.slice (some ⟨w5.heap.size,0,none⟩) 1 1)).heap.size = w5.heap.size:=by simp [World.setCell]
  have hkeep : ∀ k,k ≠ w.heap.size + 1 + 1 → k ≠ w3.heap.size + 1 → (((((w5.setCell ⟨w3.heap.size + 1,3,none⟩ (.slice (some ⟨w5.heap.size,0,none⟩) 1 1)).setCell ⟨w.heap.size + 1 + 1,0,none⟩ (.string ⟨#[99,111,110]⟩)).setCell ⟨w.heap.size + 1 + 1,1,none⟩ (.string cn.name)).setCell ⟨w.heap.size + 1 + 1,2,none⟩ (.int .i64 0)).setCell ⟨w.heap.size + 1 + 1,3,none⟩ (.slice (some ⟨w5.heap.size,0,none⟩) 1 1)).heap[k]? = w5.heap[k]?:=fun k hk hk2 =>
   ((((Below.heap_setCell _ _ _ _ hk).trans (Below.heap_setCell _ _ _ _ hk)).trans (Below.heap_setCell _ _ _ _ hk)).trans (Below.heap_setCell _ _ _ _ hk)).trans (Below.heap_setCell _ _ _ _ hk2)
  generalize (((((w5.setCell ⟨w3.heap.size + 1,3,none⟩ (.slice (some ⟨w5.heap.size,0,none⟩) 1 1)).setCell ⟨w.heap.size + 1 + 1,0,none⟩ (.string ⟨#[99,111,110]⟩)).setCell ⟨w.heap.size + 1 + 1,1,none⟩ (.string cn.name)).setCell ⟨w.heap.size + 1 + 1,2,none⟩ (.int .i64 0)).setCell ⟨w.heap.size + 1 + 1,3,none⟩ (.slice (some ⟨w5.heap.size,0,none⟩) 1 1)) = w6 at hs6 hk6 hsz hkeep ⊢
  obtain ⟨f6,hf6⟩:=(HV.out.sk.sm hs6).blk
  have hb7 : Below w6.heap.size w6 (w6.alloc (.cells #[.string p.dof,.string p.name,.int .i64 p.num,.slice p.at_ p.args.length p.cap] 28)):=(Below.refl _ _).alloc (Nat.le_refl _) _
  have hk7:=hk6.below hb7 hk6.lt
  have hs7:=hs6.then hb7
  have hrow:=pats_blk [p] (Blk.new' w6 #[.string p.dof,.string p.name,.int .i64 p.num,.slice p.at_ p.args.length p.cap] 28 w5.heap.size hsz.symm) rfl
  have hn4:=HN4.out
  have hs45:=HS5.out.size
  have hkb : K.b < w.heap.size:=HV.out.sk.lt
  have hp : p.In (w6.alloc (.cells #[.string p.dof,.string p.name,.int .i64 p.num,.slice p.at_ p.args.length p.cap] 28)).heap.size (w6.alloc (.cells #[.string p.dof,.string p.name,.int .i64 p.num,.slice p.at_ p.args.length p.cap] 28)):=
   Pt.In.next (Pt.In.moved (B0:=w4.heap.size) (fun k h1 h2 => hkeep k (by omega) (by omega)) (by omega) p HP.out HFR.out) hb7
  have hop : Open_ K (w6.alloc (.cells #[.string p.dof,.string p.name,.int .i64 p.num,.slice p.at_ p.args.length p.cap] 28)) → Open_ K w5:=fun h => by
   have h6 : Open_ K w6:=(Sm.of_below hf6 hb7).back h
   unfold Open_ Blk at h6 ⊢
   rw [hkeep K.b (by omega) (by omega)] at h6
   exact h6
  generalize w6.alloc (.cells #[.string p.dof,.string p.name,.int .i64 p.num,.slice p.at_ p.args.length p.cap] 28) = w7 at hk7 hs7 hrow hp hop ⊢
  obtain ⟨r0,r1,r2,r3⟩:=hk7.four
  exact bodyPost_ret (v:=(Pt.mk dCon cn.name 0 (some ⟨w5.heap.size,0,none⟩) 1 [p]).val) (by simp [results,Tryz.results88,go_sem,r0,r1,r2,r3,Pt.val,Pt.dof,Pt.name,Pt.num,Pt.at_,Pt.cap,Pt.args,dCon]) rfl
   (okPost (p:=.mk dCon cn.name 0 (some ⟨w5.heap.size,0,none⟩) 1 [p]) hs7 rfl (Pt.In_mk.2 ⟨by decide,HNAME.out cn HMEM.out,by decide,by simp,⟨by simp,fun h => (by cases h)⟩,hrow,by simp [hp]⟩)
    (Pt.From_mk.2 ⟨fun _ => ⟨_,_,rfl,by omega⟩,by
     have g0:=Pt.From.less (B':=w.heap.size) (by omega) p HFR.out
     simp [g0]⟩)
    (fun h => ((HFORM.out cn HMEM.out).val _ ⟨rfl,rfl,rfl⟩).2 (by unfold conForm; rw [HH.out]; exact vals_one.2 (HVAL.out (hop h)))))
theorem value_step (K : Sk) (l : List Dt) (L : List (ByteArray × Value)) (hr : Right l) (hmet : Met l (numL L)) (t : Ty) (ih : ∀ u : Ty,(nodesN (numL L) u).1 < (nodesN (numL L) t).1 → ValueC K l L u) : ValueC K l L t:=by
 intro w ht hin hv hok
 have hN:=numsOk hv.sk.vals
 by_cases hbig : 2000 < (nodesN (numL L) t).1
 ·exact value_big K l L t w ht hin hv hbig
 have hsm : (nodesN (numL L) t).1 ≤ 2000:=by omega
 cases hp : isDo [112,97,105,114] t.dof with
 | true =>
  obtain ⟨t0,t1,hargs⟩:=pair_args ht hp
  obtain ⟨d,n,A,c,ts⟩:=t
  simp only [Ty.args,Ty.dof] at hargs hp
  subst hargs
  have hnd:=pair_nodes (l:=l) hN hp hok hsm
  exact value_pair K l L d n A c t0 t1 w (ih t0 hnd.2.2.1) (ih t1 hnd.2.2.2) ht hin hv hok hsm hp
 | false =>
  cases hd : isDo [100,97,116,97] t.dof with
  | true => exact value_data K l L t w hr hmet (fun cn h => ih cn.ty h) ht hin hv hok hsm hd
  | false => exact value_flat K l L t w ht hin hv hsm hp hd
theorem value_to (K : Sk) (l : List Dt) (L : List (ByteArray × Value)) (hr : Right l) (hmet : Met l (numL L)) (hN : NumsOk (numL L)) : ∀ (k : Nat) (t : Ty),(nodesN (numL L) t).1 ≤ k → ValueC K l L t:=by
 intro k
 induction k with
 | zero =>
  intro t hk
  refine value_step K l L hr hmet t fun u hu => ?_
  have:=nodesN_range hN u
  omega
 | succ k ih =>
  intro t hk
  exact value_step K l L hr hmet t fun u hu => ih u (by omega)
theorem value_any (K : Sk) (l : List Dt) (L : List (ByteArray × Value)) (hr : Right l) (hmet : Met l (numL L)) (t : Ty) : ValueC K l L t:=by
 intro w ht hin hv hok
 have hN:=numsOk hv.sk.vals
 exact value_to K l L hr hmet hN 2001 t (nodesN_range hN t).2 w ht hin hv hok
end Go.Proofs.YtjeggkfgdhepaaaGreatDoor

namespace Go.Proofs.YtjeggkfgdhepaaaGreatDoor
open Go.RowKit
open Go.Proofs
open Go.Maps
theorem anyPt_cap : anyPt.capB:=by
 unfold anyPt
 exact Pt.capB_mk.2 ⟨by decide,fun t ht => by cases ht⟩
theorem opened_all {P : Pt → Prop} (h0 : P anyPt) (h1 : ∀ p,P p → ∀ q ∈ p.args,P q) {f : Form} {r o : List Pt} (hr : ∀ q ∈ r,P q) (ho : opened f r = some o) : ∀ q ∈ o,P q:=by
 cases r with
 | nil => simp [opened] at ho
 | cons p r =>
  rw [opened_cons] at ho
  split at ho
  ·simp only [Option.some.injEq] at ho
   subst ho
   intro q hq
   rcases List.mem_append.1 hq with h | h
   ·rw [List.eq_of_mem_replicate h]; exact h0
   ·exact hr q (by simp [h])
  ·split at ho
   ·simp only [Option.some.injEq] at ho
    subst ho
    intro q hq
    rcases List.mem_append.1 hq with h | h
    ·exact h1 p (hr p (by simp)) q h
    ·exact hr q (by simp [h])
   ·cases ho
theorem opened_in {B : Nat} {w : World} {f : Form} {r o : List Pt} (hr : ∀ q ∈ r,q.In B w) (ho : opened f r = some o) : ∀ q ∈ o,q.In B w:=
 opened_all (anyPt_in B w) (fun p hp q hq => by
  obtain ⟨d,n,m,A,c,l⟩:=p
  exact (Pt.In_mk.1 hp).2.2.2.2.2.2 q hq) hr ho
theorem opened_caps {f : Form} {r o : List Pt} (hr : ∀ q ∈ r,q.capB) (ho : opened f r = some o) : ∀ q ∈ o,q.capB:=opened_all anyPt_cap (fun p hp q hq => hp.top.2 q hq) hr ho
theorem well_args {p : Pt} (h : p.wellB = true) : p.args.length ≤ 2:=by
 obtain ⟨d,n,m,A,c,l⟩:=p
 rw [Pt.wellB_mk,Bool.and_eq_true] at h
 have h1:=h.1
 simp only [Pt.args]
 unfold nodeOk at h1
 repeat' split at h1
 all_goals simp only [Bool.and_eq_true,beq_iff_eq,decide_eq_true_eq,Bool.false_eq_true] at h1
 all_goals omega
theorem forms_caps {l : List Dt} {t : Ty} {col : List Pt} {fs : List Form} (h : IsForms l t col fs) (ht : t.capB) (hl : ∀ d ∈ l,∀ c ∈ d.cons,c.ty.capB) : ∀ f ∈ fs,∀ u ∈ f.types,u.capB:=by
 rcases h with ⟨hd,rfl⟩ | ⟨hd,rfl⟩ | ⟨hd,rfl⟩ | ⟨hd,rfl⟩ | ⟨hd,ns,m,rfl,hns⟩ | ⟨hd,rfl⟩
 ·intro f hf
  simp only [List.mem_singleton] at hf
  subst hf
  exact ht.top.2
 ·intro f hf
  simp only [List.mem_cons,List.not_mem_nil,or_false] at hf
  rcases hf with rfl | rfl
  ·intro u hu; cases hu
  ·intro u hu
   rcases List.mem_append.1 hu with h | h
   ·exact ht.top.2 u (List.mem_of_mem_take h)
   ·simp only [List.mem_singleton] at h
    subst h
    exact ht
 ·intro f hf u hu
  simp only [List.mem_cons,List.not_mem_nil,or_false] at hf
  rcases hf with rfl | rfl <;> cases hu
 ·intro f hf u hu
  simp only [List.mem_singleton] at hf
  subst hf
  cases hu
 ·intro f hf u hu
  rcases List.mem_append.1 hf with h | h
  ·obtain ⟨n,-,rfl⟩:=List.mem_map.1 h
   cases hu
  ·simp only [List.mem_singleton] at h
   subst h
   cases hu
 ·intro f hf u hu
  obtain ⟨c,hc,rfl⟩:=List.mem_map.1 hf
  unfold conForm at hu
  simp only at hu
  split at hu
  ·simp only [List.mem_singleton] at hu
   subst hu
   obtain ⟨d,hd,-,hcd,-⟩:=consOf_mem hc
   exact hl d hd c hcd
  ·cases hu
section
variable {K : Sk} {w w1 : World}
theorem Sm.rt (h : Sm K w w1) {r : Rt} (hr : r.In w.heap.size w) : r.In w1.heap.size w1:=⟨(h.row (Nat.le_refl _) (ty_text r.tys) hr.1).wider h.size,fun p hp => h.wide_ty (hr.2.1 p hp),hr.2.2⟩
theorem Sm.rw (h : Sm K w w1) {r : Rw} (hr : r.In w.heap.size w) : r.In w1.heap.size w1:=⟨(h.row (Nat.le_refl _) (pt_text r.pats) hr.1).wider h.size,fun p hp => h.wide_pt (hr.2.1 p hp),hr.2.2⟩
end
theorem tail_ty {B : Nat} {w : World} {b o c : Nat} {p : Ty} {ps : List Ty} (h : Rt.In B w ⟨some ⟨b,o,none⟩,c,p :: ps⟩) : Rt.In B w ⟨if c = 1 then some ⟨b,o,none⟩ else some ⟨b,o + 3,none⟩,c - 1,ps⟩:=by
 obtain ⟨h1,h2,h3,h4⟩:=h
 simp only [List.length_cons] at h3
 refine ⟨fun hlen => ?_,fun q hq => h2 q (by simp [hq]),by simp only; omega,by simp only at h4 ⊢; omega⟩
 simp only [List.length_map] at hlen
 obtain ⟨b',o',he,hb,hc⟩:=h1 (by simp)
 simp only [Option.some.injEq,Addr.mk.injEq,and_true] at he
 obtain ⟨rfl,rfl⟩:=he
 have hc1 : c ≠ 1:=by omega
 refine ⟨b,o + 3,by simp [hc1],hb,fun i x hi j v hj => ?_⟩
 have:=hc (i + 1) x (by simpa using hi) j v hj
 rw [show o + 3 + i * 3 + j = o + (i + 1) * 3 + j by omega]
 exact this
theorem Rw.In.some {B : Nat} {w : World} {A : Option Addr} {c : Nat} {p : Pt} {ps : List Pt} (h : Rw.In B w ⟨A,c,p :: ps⟩) : ∃ b o,A = some ⟨b,o,none⟩ ∧ b < B:=by
 obtain ⟨b,o,e,hb,-⟩:=h.1 (by simp)
 exact ⟨b,o,e,hb⟩
theorem Rt.In.some {B : Nat} {w : World} {A : Option Addr} {c : Nat} {p : Ty} {ps : List Ty} (h : Rt.In B w ⟨A,c,p :: ps⟩) : ∃ b o,A = some ⟨b,o,none⟩ ∧ b < B:=by
 obtain ⟨b,o,e,hb,-⟩:=h.1 (by simp)
 exact ⟨b,o,e,hb⟩
structure RowOk (l : List Dt) (ts : List Ty) (ps : List Pt) : Prop where
 ok : POks l ts ps
 cap : ∀ p ∈ ps,p.capB
def patsL (rows : List Rw) : List (List Pt):=rows.map Rw.pats
def sizeL (ts : List Ty) (rows : List (List Pt)) (row : List Pt) : Nat:=3 * (rowsW rows + rowW row) + ts.length
structure SeekIn (K : Sk) (l : List Dt) (L : List (ByteArray × Value)) (tys : Rt) (A : Option Addr) (rows : List Rw) (row : Rw) (w : World) : Prop where
 env : VEnv K l L w
 caps : ∀ d ∈ l,∀ c ∈ d.cons,c.ty.capB
 tin : tys.In w.heap.size w
 tno : tys.at_ = none → tys.cap = 0
 tok : ∀ t ∈ tys.tys,okT l t ∧ t.capB
 rin : RowsIn w.heap.size w A rows
 rok : ∀ r ∈ rows,RowOk l tys.tys r.pats
 rlen : rows.length ≤ 1000
 win : row.In w.heap.size w
 wok : RowOk l tys.tys row.pats
def SeekPost (K : Sk) (l : List Dt) (ts : List Ty) (rows : List (List Pt)) (row : List Pt) (w : World) (e : Ending) (w' : World) : Prop:=
 Sm K w w' ∧ ((e = .returned (.tuple #[.slice none 0 0,.bool false]) ∧ ¬Useful l ts rows row) ∨
  (Useful l ts rows row ∧ ∃ (A : Option Addr) (c : Nat) (out : List Pt),e = .returned (.tuple #[.slice A out.length c,.bool true]) ∧ Rw.In w'.heap.size w' ⟨A,c,out⟩ ∧ (A = none → c = 0) ∧ (out = [] → A = none) ∧ out.length = ts.length ∧
   (Open_ K w' → Vals l ts out ∧ matchAll row out = true ∧ ∀ r ∈ rows,matchAll r out = false)))
def SeekTo (K : Sk) (l : List Dt) (L : List (ByteArray × Value)) (n : Nat) : Prop:=∀ (tys : Rt) (A : Option Addr) (rows : List Rw) (c : Nat) (row : Rw) (w : World),SeekIn K l L tys A rows row w → sizeL tys.tys (patsL rows) row.pats ≤ n →
 Calls Tryz.prog 44 #[K.val,tys.val,.slice A rows.length c,row.val] w (SeekPost K l tys.tys (patsL rows) row.pats w)
structure Right2 (l : List Dt) (L : List (ByteArray × Value)) : Prop where
 right : Right l
 met : Met l (numL L)
 inh : Inh l (hasN (numL L))
set_option maxRecDepth 100000 in
set_option maxHeartbeats 4000000 in
theorem seek_empty (K : Sk) (l : List Dt) (L : List (ByteArray × Value)) (At : Option Addr) (ct : Nat) (A : Option Addr) (rows : List Rw) (c : Nat) (row : Rw) (w : World) (h : SeekIn K l L ⟨At,ct,[]⟩ A rows row w) :
  Calls Tryz.prog 44 #[K.val,(Rt.mk At ct []).val,.slice A rows.length c,row.val] w (SeekPost K l [] (patsL rows) row.pats w):=by
 refine Calls.mono (seek_nil K.val At ct A rows.length c row.val w) ?_
 rintro e w' ⟨rfl,rfl⟩
 have hu:=useful_nil l (patsL rows) [] (fun r hr => by
  obtain ⟨x,hx,rfl⟩:=List.mem_map.1 hr
  exact (h.rok x hx).ok)
 have hrow : row.pats = []:=by
  have:=h.wok.ok.length
  exact List.eq_nil_of_length_eq_zero this.symm
 refine ⟨h.env.sk.same (Below.refl _ _), ?_⟩
 rw [hrow]
 cases rows with
 | nil => exact .inr ⟨hu.2 rfl,none,0,[],rfl,⟨fun h => by simp at h,fun p hp => (by cases hp),Nat.le_refl _,by simp⟩,fun _ => rfl,fun _ => rfl,rfl,fun _ => ⟨.nil,by simp [matchAll],fun r hr => by cases hr⟩⟩
 | cons r rows => exact .inl ⟨by
   have : (((r :: rows).length : Int) == 0) = false:=by
    rw [List.length_cons]
    simp
    omega
   rw [this],fun hh => by have:=hu.1 hh; cases this⟩
end Go.Proofs.YtjeggkfgdhepaaaGreatDoor

namespace Go.Proofs.YtjeggkfgdhepaaaGreatDoor
open Go.RowKit
open Go.Proofs
open Go.Maps
theorem tame_clear {l : List Dt} {t : Ty} {p : Pt} (hp : POk l t p) (hw : wildD p.dof = false) : opaqueT t = false:=by
 rcases isOf_head hp.1 hw hp.2 with h | h | h | h | h | h | h
 ·exact not_opaque h.2.2 (by simp)
 ·exact not_opaque h.2.2.2 (by simp)
 ·exact not_opaque h.2.2.2 (by simp)
 ·exact not_opaque h.2.2.2 (by simp)
 ·exact not_opaque h.2.2.2 (by simp)
 ·exact not_opaque h.2.2.2 (by simp)
 ·exact not_opaque h.2.2.1 (by simp)
theorem heads_tame {rs : List Rw} {p : Pt} (h : (headsTo rs rs.length ++ [p]).all (fun q => wildD q.dof) = false) (hne : ∀ r ∈ rs,0 < r.pats.length) : wildD p.dof = false ∨ ∃ q r,q :: r ∈ patsL rs ∧ wildD q.dof = false:=by
 rw [List.all_append,Bool.and_eq_false_iff] at h
 rcases h with h | h
 ·rw [List.all_eq_false] at h
  obtain ⟨x,hx,hw⟩:=h
  unfold headsTo at hx
  rw [List.take_length] at hx
  obtain ⟨r,hr,rfl⟩:=List.mem_map.1 hx
  have hn:=hne r hr
  cases hp : r.pats with
  | nil => rw [hp] at hn; simp at hn
  | cons q qs =>
   rw [hp] at hw
   exact .inr ⟨q,qs,List.mem_map.2 ⟨r,hr,hp⟩,by simpa using hw⟩
 ·exact .inl (by simpa using h)
theorem fm_text (fms : List Fm) : ∀ x ∈ fms.map Fm.cells,∃ s : ByteArray,x[0]? = some (.string s):=by
 intro x hx
 obtain ⟨p,-,rfl⟩:=List.mem_map.1 hx
 exact ⟨_,rfl⟩
theorem Fm.arg_at {B : Nat} {W : World} {A : Option Addr} {fms : List Fm} {k : Nat} (hR : RowAt B W 5 A (fms.map Fm.cells)) (hlt : k < fms.length) :
  ∃ f b off,fms[k]? = some f ∧ f ∈ fms ∧ A = some ⟨b,off,none⟩ ∧ b < B ∧ W.cell? ⟨b,off + k * 5,none⟩ = some (.string f.form.dof) ∧ W.cell? ⟨b,off + k * 5 + 1,none⟩ = some (.string f.form.name) ∧ W.cell? ⟨b,off + k * 5 + 2,none⟩ = some (.int .i64 f.form.num) ∧
   W.cell? ⟨b,off + k * 5 + 3,none⟩ = some (.slice none 0 0) ∧ W.cell? ⟨b,off + k * 5 + 4,none⟩ = some (.slice f.at_ f.form.types.length f.cap):=by
 obtain ⟨q,hq⟩ : ∃ q,fms[k]? = some q:=⟨_,List.getElem?_eq_getElem hlt⟩
 obtain ⟨b,off,rfl,hb',hc⟩:=hR (by simp; omega)
 exact ⟨q,b,off,hq,List.mem_of_getElem? hq,rfl,hb',hc k q.cells (by simp [hq]) 0 _ rfl,hc k q.cells (by simp [hq]) 1 _ rfl,hc k q.cells (by simp [hq]) 2 _ rfl,hc k q.cells (by simp [hq]) 3 _ rfl,hc k q.cells (by simp [hq]) 4 _ rfl⟩
theorem own_apart {w : World} {B1 B2 n1 n2 s1 s2 : Nat} {v1 v2 : Value} {xs1 xs2 : List Value} {e1 e2 : TypeId} (h1 : w.ownsRow B1 e1 s1 v1 n1 xs1) (h2 : w.ownsRow B2 e2 s2 v2 n2 xs2) (he : e2 ≠ e1) : ∀ j,v2.ownBlock = some j → v1.ownBlock ≠ some j:=by
 intro j hj
 rcases h2.2 with ⟨hv,-⟩ | ⟨g,cap,cur,hv,-,hblk,-⟩
 ·rw [hv] at hj
  simp [Value.ownBlock] at hj
 ·rw [hv] at hj
  simp only [Value.ownBlock,Option.some.injEq] at hj
  subst hj
  exact own_ne h1 (show Blk w g cur e2 from hblk) he
theorem RowAt.drop {B : Nat} {w : World} {b o : Nat} {l : List Pt} (h : RowAt B w 4 (some ⟨b,o,none⟩) (l.map Pt.cells)) (k : Nat) : RowAt B w 4 (some ⟨b,o + k * 4,none⟩) ((l.drop k).map Pt.cells):=by
 intro hl
 rw [List.length_map,List.length_drop] at hl
 obtain ⟨b',o',he,hb,hc⟩:=h (by simp; omega)
 simp only [Option.some.injEq,Addr.mk.injEq,and_true] at he
 obtain ⟨rfl,rfl⟩:=he
 refine ⟨b,o + k * 4,rfl,hb,fun i x hi j v hj => ?_⟩
 rw [List.map_drop,List.getElem?_drop] at hi
 have:=hc (k + i) x hi j v hj
 rw [show o + k * 4 + i * 4 + j = o + (k + i) * 4 + j by rw [Nat.add_mul]; omega]
 exact this
theorem tys_len (ts : List Ty) : ∀ x ∈ ts.map Ty.cells,x.length = 3:=by
 intro x hx
 obtain ⟨q,-,rfl⟩:=List.mem_map.1 hx
 rfl
theorem tysO_in {B : Nat} {w : World} {A : Option Addr} {c : Nat} {ts : List Ty} (h : w.ownsRow B 25 3 (.slice A ts.length c) ts.length ((ts.map Ty.cells).flatten)) (hall : ∀ t ∈ ts,t.In w.heap.size w) : Rt.In w.heap.size w ⟨A,c,ts⟩:=
 ⟨own_rowAt (by decide) (tys_len ts) h,hall,(own_cap h).1,by have:=(own_cap h).2.2; unfold maxLen at this; exact this⟩
def OwnRw (W0 W : World) (r : Rw) : Prop:=W.ownsRow W0.heap.size 28 4 (.slice r.at_ r.pats.length r.cap) r.pats.length ((r.pats.map Pt.cells).flatten) ∧ ∀ q ∈ r.pats,q.In W0.heap.size W0
theorem OwnRw.in_ {W0 W : World} {r : Rw} (h : OwnRw W0 W r) (hb : Below W0.heap.size W0 W) : r.In W.heap.size W:=PatsO.in_ h.1 fun q hq => Pt.In.next (h.2 q hq) hb
theorem OwnRw.below {W0 W W1 : World} {r : Rw} (h : OwnRw W0 W r) (hb : Below W.heap.size W W1) : OwnRw W0 W1 r:=⟨row_stays h.1 fun j hj => hb.block j (h.1.lt j hj).2,h.2⟩
theorem OwnRw.grown {W0 W W1 : World} {r : Rw} {B size n : Nat} {v : Value} {xs : List Value} (h : OwnRw W0 W r) (ho : W.ownsRow B 26 size v n xs) (hg : W.grownBy W1 v.ownBlock) : OwnRw W0 W1 r:=
 ⟨row_stays h.1 fun j hj => hg.block j (h.1.lt j hj).2 (fun e => own_apart ho h.1 (by decide) j hj e.symm),h.2⟩
def NoForm (l : List Dt) (ts : List Ty) (rows : List (List Pt)) (row : List Pt) (f : Form) : Prop:=¬∃ next,opened f row = some next ∧ Useful l (f.types ++ ts) (rows.filterMap (opened f)) next
theorem filter_snoc {rs : List Rw} {f : Form} {k : Nat} {r : Rw} (h : rs[k]? = some r) : (patsL (rs.take (k + 1))).filterMap (opened f) = (patsL (rs.take k)).filterMap (opened f) ++ (match opened f r.pats with | some o => [o] | none => []):=by
 rw [take_snoc h]
 unfold patsL
 rw [List.map_append,List.filterMap_append]
 simp only [List.map_cons,List.map_nil,List.filterMap_cons,List.filterMap_nil]
 cases opened f r.pats <;> rfl
theorem poks_opened {l : List Dt} {t : Ty} {ts : List Ty} {f : Form} (hf : FormOk l t f) {r o : List Pt} (h : RowOk l (t :: ts) r) (ho : opened f r = some o) : RowOk l (f.types ++ ts) o:=⟨opened_ok hf h.ok ho,opened_caps h.cap ho⟩
theorem form_found {l : List Dt} {t : Ty} {ts : List Ty} {f : Form} (hf : FormOk l t f) {p : Pt} {ps next : List Pt} {rows : List (List Pt)} (hrow : POks l (t :: ts) (p :: ps)) (hrows : ∀ r ∈ rows,POks l (t :: ts) r) (ho : opened f (p :: ps) = some next) {out : List Pt} (hv : Vals l (f.types ++ ts) out)
  (hm : matchAll next out = true) (hn : ∀ r ∈ rows.filterMap (opened f),matchAll r out = false) (A : Option Addr) (c : Nat) :
  Vals l (t :: ts) (.mk f.dof f.name f.num A c (out.take f.types.length) :: out.drop f.types.length) ∧ matchAll (p :: ps) (.mk f.dof f.name f.num A c (out.take f.types.length) :: out.drop f.types.length) = true ∧ ∀ r ∈ rows,matchAll r (.mk f.dof f.name f.num A c (out.take f.types.length) :: out.drop f.types.length) = false:=by
 obtain ⟨o1,o2,rfl,h1,h2⟩:=f2_split hv
 have hl : f.types.length = o1.length:=Vals.length h1
 rw [hl,List.take_left,List.drop_left]
 have hh : Head (.mk f.dof f.name f.num A c o1) f:=⟨rfl,rfl,rfl⟩
 have hval : Val l t (.mk f.dof f.name f.num A c o1):=(hf.val _ hh).2 h1
 refine ⟨.cons hval h2, ?_,fun r hr => ?_⟩
 ·cases hrow with
  | cons k1 k2 =>
   rw [opened_match hf hh hval k1,ho]
   exact hm
 ·have hpr:=hrows r hr
  cases hpr with
  | cons k1 k2 =>
   rename_i q r'
   rw [opened_match hf hh hval k1]
   cases hro : opened f (q :: r') with
   | none => rfl
   | some o => exact hn o (List.mem_filterMap.2 ⟨_,hr,hro⟩)
theorem Sm.ne_slice {K : Sk} {w w1 : World} (h : Sm K w w1) {b o : Nat} {A : Option Addr} {n c : Nat} (hc : w.cell? ⟨b,o,none⟩ = some (.slice A n c)) : b ≠ K.b:=by
 obtain ⟨f,f',hf,hf',hm⟩:=h.flag
 intro e
 subst e
 rw [hf.cell] at hc
 unfold Sk.cells at hc
 match o,hc with
 | 0,hc => simp at hc
 | 1,hc => simp at hc
 | 2,hc => simp at hc
 | 3,hc => simp at hc
 | 4,hc => simp at hc
 | o + 5,hc => simp at hc
theorem Sm.rows {K : Sk} {w w1 : World} (h : Sm K w w1) {A : Option Addr} {rs : List Rw} (hr : RowsIn w.heap.size w A rs) : RowsIn w1.heap.size w1 A rs:=by
 refine ⟨fun hlen => ?_,fun r hm => h.rw (hr.each r hm),hr.len⟩
 obtain ⟨b,off,rfl,hb,hc⟩:=hr.row hlen
 rw [List.length_map] at hlen
 have h0:=hc 0 [rs[0].val] (by rw [List.getElem?_map,List.getElem?_eq_getElem hlen]; rfl) 0 rs[0].val rfl
 have hne:=h.ne_slice (show w.cell? ⟨b,off + 0 * 1 + 0,none⟩ = some (.slice rs[0].at_ rs[0].pats.length rs[0].cap) from h0)
 exact ⟨b,off,rfl,Nat.lt_of_lt_of_le hb h.size,fun i x hi j v hj => (World.cell?_of_block (h.block b hb hne)).trans (hc i x hi j v hj)⟩
def tailAd (k b o c : Nat) : Option Addr:=if c = 1 then some ⟨b,o,none⟩ else some ⟨b,o + k,none⟩
def dropAd (A : Option Addr) (k c : Nat) : Option Addr:=match A with
 | some ⟨b,o,_⟩ => if c = k then some ⟨b,o,none⟩ else some ⟨b,o + k * 4,none⟩
 | none => none
theorem drop_in {B : Nat} {w : World} {A : Option Addr} {c k : Nat} {out : List Pt} (h : Rw.In B w ⟨A,c,out⟩) (he : out = [] → A = none) (hk : k ≤ out.length) : RowAt B w 4 (dropAd A k c) ((out.drop k).map Pt.cells):=by
 intro hl
 have hl2 : 0 < out.length - k:=by simpa using hl
 obtain ⟨h1,h2,h3,h4⟩:=h
 simp only at h1 h3
 obtain ⟨b,o,rfl,hb,hc⟩:=h1 (by simp; omega)
 have hne : c ≠ k:=by omega
 have h9:=RowAt.drop h1 k
 unfold dropAd
 simp only [hne,if_false]
 exact h9 (by simp; omega)
theorem wp_append_rowat {P : Program} {w : World} {o : Oper} {a : Act} {K : Act → World → Prop} {Q : Exit → Act → World → Prop} (s x : Operand) (t : TypeId)
  (ho : o.op = .call { callee:=.builtin .append,args:=#[s,x],argTypes:=#[t,t] }) (base : Nat) (e : TypeId) (i : TypeInfo) (z : Value) (size bytes : Nat) (ht : P.underlying t = some (.slice e)) (hi : P.info? e = some i) (hz : i.zero = some z)
  (hsize : i.size = size) (hby : i.bytes = bytes) (hzs : z.cells.size = size) (hsz : 0 < size) (v : Value) (n : Nat) (xs : List Value) (hs : a.eval s = v) (hown : w.ownsRow base e size v n xs)
  (B : Nat) (A : Option Addr) (l : List (List Value)) (c : Nat) (hx : a.eval x = .slice A l.length c) (hA : A = none → c = 0) (hrow : RowAt B w size A l) (hle : l.length ≤ c) (hk : ∀ y ∈ l,y.length = size) (h1 : ∀ y ∈ l,∀ u ∈ y,u.oneCell' = true)
  (h63 : n + l.length ≤ maxLen) (hbytes : (n + l.length) * bytes ≤ 140737488355328) (hbase : base ≤ w.heap.size)
  (h : ∀ v' w',w'.ownsRow base e size v' (n + l.length) (xs ++ l.flatten) → w.grownBy w' v.ownBlock → K (a.put o.dst v') w') : o.wp P a w K Q:=by
 rcases A with _ | ad
 ·have hc:=hA rfl
  have hl : l = []:=List.eq_nil_of_length_eq_zero (by omega)
  subst hl
  subst hc
  have hrun:=run_append_owned_none (P:=P) (w:=w) base t o.type e i size ht hi v n xs hown
  unfold Oper.wp
  simp only [List.length_nil] at hx
  simp [execOp,ho,resolve,invoke,builtin,hs,hx,hrun,Result.andThen]
  exact h v w (by simpa using hown) (World.grownBy.refl w _)
 ·obtain ⟨v',w',hr,k1,k2,-,-⟩:=run_append_own_at (P:=P) w base t o.type e i z size bytes ht hi hz hsize hby hzs hsz v n xs hown ad l.length c l.flatten (flat_len size l hk) (fun j u hu => by
   obtain ⟨i',y,j',rfl,hi',hj'⟩:=flat_at size l hk j u hu
   obtain ⟨b,off,he,-,hc⟩:=hrow (by have:=(List.getElem?_eq_some_iff.1 hi').1; omega)
   simp only [Option.some.injEq] at he
   subst he
   have e : (⟨b,off,none⟩ : Addr).add (i' * size + j') = ⟨b,off + i' * size + j',none⟩:=by
    unfold Addr.add
    split
    ·rename_i h0
     have : i' * size = 0:=by omega
     have : j' = 0:=by omega
     simp [*]
    ·simp only [Nat.add_assoc]
   rw [e]
   exact hc i' y hi' j' u hj') (fun u hu => by
   obtain ⟨y,hy,huy⟩:=List.mem_flatten.1 hu
   exact h1 y hy u huy) h63 hbytes hbase
  unfold Oper.wp execOp
  simp only [ho,resolve,invoke,builtin,Sem.run_bind,Sem.run_pure,Result.andThen_ok,List.map_toArray,List.map_cons,List.map_nil,hs,hx,hr]
  exact h v' w' k1 k2
def SH (bx : Nat) (f : Fm) (A : Option Addr) (c : Nat) (W : World) : Prop:=W.cell? ⟨bx,0,none⟩ = some (.string f.form.dof) ∧ W.cell? ⟨bx,1,none⟩ = some (.string f.form.name) ∧ W.cell? ⟨bx,2,none⟩ = some (.int .i64 f.form.num) ∧ W.cell? ⟨bx,3,none⟩ = some (.slice A f.form.types.length c) ∧ bx < W.heap.size
end Go.Proofs.YtjeggkfgdhepaaaGreatDoor

namespace Go.Proofs.YtjeggkfgdhepaaaGreatDoor
open Go.RowKit
open Go.Proofs
open Go.Maps
theorem own_one (w : World) (v : Pt) : (w.alloc (.cells #[.string v.dof,.string v.name,.int .i64 v.num,.slice v.at_ v.args.length v.cap] 28)).ownsRow w.heap.size 28 4 (.slice (some ⟨w.heap.size,0,none⟩) 1 1) 1 [.string v.dof,.string v.name,.int .i64 v.num,.slice v.at_ v.args.length v.cap]:=
 ⟨rfl,.inr ⟨_,1,_,rfl,Nat.le_refl _,heap_alloc_new w _,Nat.le_refl _,by decide,rfl,rfl⟩⟩
def tailRw (r : Rw) : Rw:=match r.at_,r.pats with
 | some ⟨b,o,_⟩,_ :: qs => ⟨tailAd 4 b o r.cap,r.cap - 1,qs⟩
 | _,_ => r
theorem tailRw_mk (b o c : Nat) (q : Pt) (qs : List Pt) : tailRw ⟨some ⟨b,o,none⟩,c,q :: qs⟩ = ⟨tailAd 4 b o c,c - 1,qs⟩:=rfl
theorem heads_all {rs : List Rw} {p : Pt} (h : (headsTo rs rs.length ++ [p]).all (fun q => wildD q.dof) = true) : wildD p.dof = true ∧ ∀ r ∈ patsL rs,∀ q r',r = q :: r' → wildD q.dof = true:=by
 rw [List.all_append,Bool.and_eq_true] at h
 refine ⟨by simpa using h.2,fun r hr q r' he => ?_⟩
 obtain ⟨x,hx,rfl⟩:=List.mem_map.1 hr
 have h1:=List.all_eq_true.1 h.1
 have:=h1 (x.pats.headD anyPt) (by unfold headsTo; rw [List.take_length]; exact List.mem_map.2 ⟨x,hx,rfl⟩)
 rw [he] at this
 exact this
theorem tail_in2 {B : Nat} {w : World} {r : Rw} (h : r.In B w) (hp : 0 < r.pats.length) : (tailRw r).In B w ∧ (tailRw r).pats = r.pats.tail:=by
 obtain ⟨a,c,ps⟩:=r
 cases ps with
 | nil => simp at hp
 | cons q qs =>
  obtain ⟨b,o,rfl,hb⟩:=h.some
  exact ⟨tail_in h,rfl⟩
theorem tail_pats {B : Nat} {w : World} {rs : List Rw} (hin : ∀ r ∈ rs,r.In B w) (h : ∀ r ∈ rs,0 < r.pats.length) : patsL (rs.map tailRw) = (patsL rs).map List.tail:=by
 unfold patsL
 rw [List.map_map,List.map_map]
 exact List.map_congr_left fun r hr => (tail_in2 (hin r hr) (h r hr)).2
theorem tails_weight (rows : List (List Pt)) : rowsW (rows.map List.tail) ≤ rowsW rows:=by
 induction rows with
 | nil => exact Nat.le_refl _
 | cons r rows ih =>
  have h1 : rowsW (r :: rows) = rowW r + rowsW rows:=by unfold rowsW; simp
  have h2 : rowsW ((r :: rows).map List.tail) = rowW r.tail + rowsW (rows.map List.tail):=by unfold rowsW; simp
  have h3 : rowW r.tail ≤ rowW r:=by
   cases r with
   | nil => exact Nat.le_refl _
   | cons q qs =>
    have : rowW (q :: qs) = q.weight + rowW qs:=by unfold rowW; simp
    simp only [List.tail_cons]
    omega
  omega
theorem poks_tail {l : List Dt} {t : Ty} {ts : List Ty} {ps : List Pt} (h : RowOk l (t :: ts) ps) : RowOk l ts ps.tail:=by
 obtain ⟨h1,h2⟩:=h
 cases h1 with
 | cons k1 k2 => exact ⟨k2,fun p hp => h2 p (by simp at hp; simp [hp])⟩
theorem flat_in2 {K : Sk} {l : List Dt} {L : List (ByteArray × Value)} {bt ot ct : Nat} {t : Ty} {ts : List Ty} {A2 : Option Addr} {rs : List Rw} {b1 off1 cr : Nat} {p : Pt} {ps : List Pt} {w W : World} {B : Nat} {A' : Option Addr} {c' : Nat}
  (h : SeekIn K l L ⟨some ⟨bt,ot,none⟩,ct,t :: ts⟩ A2 rs ⟨some ⟨b1,off1,none⟩,cr,p :: ps⟩ w) (hb : Below w.heap.size w W) (ho : W.ownsRow B 26 1 (.slice A' rs.length c') rs.length ((rs.map fun r => (tailRw r).val).take rs.length)) :
  SeekIn K l L ⟨tailAd 3 bt ot ct,ct - 1,ts⟩ A' (rs.map tailRw) ⟨tailAd 4 b1 off1 cr,cr - 1,ps⟩ W.drew:=by
 have hlen : ∀ r ∈ rs,0 < r.pats.length:=fun r hr => by
  have:=(h.rok r hr).ok.length
  simp only [List.length_cons] at this
  omega
 have hd:=hb.drew
 have ht : ∀ r ∈ rs,(tailRw r).In W.drew.heap.size W.drew ∧ (tailRw r).pats = r.pats.tail:=fun r hr =>
  tail_in2 (((h.rin.each r hr).keep hd).wider hd.size) (hlen r hr)
 have hrow:=row_vals ho
 have htl : (rs.map fun r => (tailRw r).val).take rs.length = rs.map fun r => (tailRw r).val:=by
  have:=List.take_length (l:=rs.map fun r => (tailRw r).val)
  rwa [List.length_map] at this
 rw [htl,List.map_map] at hrow
 exact {
  env:=h.env.next hd
  caps:=h.caps
  tin:=(Rt.In.keep (tail_ty h.tin) hd).wider hd.size
  tno:=fun he => by unfold tailAd at he; simp only at he; split at he <;> cases he
  tok:=fun u hu => h.tok u (by simp [hu])
  rin:=⟨by rw [List.map_map]; exact hrow,fun r hr => by
   obtain ⟨x,hx,rfl⟩:=List.mem_map.1 hr
   exact (ht x hx).1,by have:=h.rlen; simp; omega⟩
  rok:=fun r hr => by
   obtain ⟨x,hx,rfl⟩:=List.mem_map.1 hr
   rw [(ht x hx).2]
   exact poks_tail (h.rok x hx)
  rlen:=by have:=h.rlen; simpa using this
  win:=(Rw.In.keep (tail_in h.win) hd).wider hd.size
  wok:=poks_tail h.wok }
set_option maxRecDepth 100000 in
set_option maxHeartbeats 16000000 in
theorem seek_wild (K : Sk) (l : List Dt) (L : List (ByteArray × Value)) (hr : Right2 l L) (n : Nat) (ih : SeekTo K l L n) (bt ot ct : Nat) (t : Ty) (ts : List Ty) (A2 : Option Addr) (rs : List Rw) (c2 : Nat) (b1 off1 cr : Nat) (p : Pt) (ps : List Pt) (w : World)
  (h : SeekIn K l L ⟨some ⟨bt,ot,none⟩,ct,t :: ts⟩ A2 rs ⟨some ⟨b1,off1,none⟩,cr,p :: ps⟩ w) (hn : sizeL (t :: ts) (patsL rs) (p :: ps) ≤ n + 1) (hn2 : n < 100000) (hwild : (headsTo rs rs.length ++ [p]).all (fun q => wildD q.dof) = true) :
  Calls Tryz.prog 44 #[K.val,.slice (some ⟨bt,ot,none⟩) (ts.length + 1) ct,.slice A2 rs.length c2,.slice (some ⟨b1,off1,none⟩) (ps.length + 1) cr] w (SeekPost K l (t :: ts) (patsL rs) (p :: ps) w):=by
 have H:=Lib.hid h
 have HRS:=Lib.hid h.rin
 obtain ⟨t',bt',ot',ht,-,hat,hbt,y0,y1,y2⟩:=Ty.arg_at (k:=0) h.tin.1 (Below.refl _ _) (by simp)
 obtain ⟨p',b1',off1',hp,-,hap,hb1,z0,z1,z2,z3⟩:=Pt.arg_at (k:=0) h.win.1 (Below.refl _ _) (by simp)
 simp only [List.getElem?_cons_zero,Option.some.injEq] at ht hp
 simp only [Option.some.injEq,Addr.mk.injEq,and_true] at hat hap
 subst ht
 subst hp
 obtain ⟨rfl,rfl⟩:=hat
 obtain ⟨rfl,rfl⟩:=hap
 simp only [Nat.zero_mul,Nat.add_zero] at y0 y1 y2 z0 z1 z2 z3
 have HNE:=Lib.hid (fun (r : Rw) (hr : r ∈ rs) => (show 0 < r.pats.length by
  have:=(h.rok r hr).ok.length
  simp only [List.length_cons] at this
  omega))
 have HCF:=Lib.hid (fun (W : World) (hW : Below w.heap.size w W) => firsts_any A2 rs c2 W (h.rin.at_ hW hW.size) HNE.out)
 have HBT:=Lib.hid ((Below.refl w.heap.size w).alloc (Nat.le_refl _) (.cells #[.string t.dof,.string t.name,.slice t.at_ t.args.length t.cap] 25))
 have HKT:=Lib.hid (Blk.new w #[.string t.dof,.string t.name,.slice t.at_ t.args.length t.cap] 25)
 have HZ:=Lib.hid (fun W (hW : Below w.heap.size w W) => (⟨(hW.cell (p:=⟨b1,off1,none⟩) hb1).trans z0,(hW.cell (p:=⟨b1,off1 + 1,none⟩) hb1).trans z1,(hW.cell (p:=⟨b1,off1 + 2,none⟩) hb1).trans z2,(hW.cell (p:=⟨b1,off1 + 3,none⟩) hb1).trans z3⟩ : P4 b1 off1 p W))
 have HN:=Lib.hid hn
 have HWILD:=Lib.hid hwild
 have HR:=Lib.hid hr
 have HIH:=Lib.hid ih
 have hlen:=h.rlen
 have hcc : ts.length + 1 ≤ ct ∧ ct ≤ 9223372036854775807:=by have:=h.tin.2.2; simpa using this
 have hcr : ps.length + 1 ≤ cr ∧ cr ≤ 9223372036854775807:=by have:=h.win.2.2; simpa using this
 have hlt0 : ts.length ≤ 100000:=by unfold sizeL at hn; simp only [List.length_cons] at hn; omega
 have HLP:=Lib.hid (show ps.length = ts.length by have:=h.wok.ok.length; simp only [List.length_cons] at this; omega)
 have hlp : ps.length ≤ 100000:=by rw [HLP.out]; exact hlt0
 clear h z0 z1 z2 z3 hn hwild hr ih
 obtain ⟨i0,hi,hz0,hz1,hz2⟩:=info_parts infoPat
 obtain ⟨i1,hj,hw0,hw1,hw2⟩:=info_parts infoRow
 unfold Sk.val
 go_enter Tryz.func44,Tryz.ntmps44
 go_upto_region 4 with (fail)
 go_cut [11] (fun cv wx => ∃ (Ac : Option Addr) (cc : Nat),cv = .slice Ac (headsTo rs rs.length ++ [p]).length cc ∧ Hid (RowAt wx.heap.size wx 4 Ac ((headsTo rs rs.length ++ [p]).map Pt.cells)) ∧ Hid (Below w.heap.size w wx) ∧ Hid (Blk wx w.heap.size #[.string t.dof,.string t.name,.slice t.at_ t.args.length t.cap] 25))
 case first =>
  generalize w.alloc (.cells #[.string t.dof,.string t.name,.slice t.at_ t.args.length t.cap] 25) = w1 at HBT HKT ⊢
  refine region_ord (P4 b1 off1 p) (.read 0 (.read 2 (.read 3 (.read 4 (.two 1 (.one 5 (.one 6 (.one 7 .done))) 5 (.one 1 (.one 6 (.one 7 .done)))))))) (by kernel_rfl) (by kernel_rfl) (HZ.out _ HBT.out.drew) ?_
  iterate 4
   refine wpOrd_read _ ?_ rfl (by rfl) (fun W hW => ?_) ?_
   rotate_left
   ·unfold P4 at hW
    go_simp
    try with_reducible rfl
   simp only [Act.put,List.setIfInBounds_toArray,List.set_cons_zero,List.set_cons_succ]
  refine wpOrd_two ?_ ?_
  ·refine stepAt_of _ rfl rfl (fun K hK => ?_)
   go_simp
   refine Calls.mono (HCF.out _ HBT.out.drew) ?_
   rintro e w3 ⟨hb3,v3,rfl,A3,c3,rfl,hown3⟩
   have HB3:=Lib.hid (HBT.out.drew.trans (hb3.mono HBT.out.drew.size))
   have HK3:=Lib.hid ((HKT.out.drewN 1).below hb3 HKT.out.lt)
   have HBW:=Lib.hid (HB3.out.alloc HB3.out.size (.cells #[.string p.dof,.string p.name,.int .i64 p.num,.slice p.at_ p.args.length p.cap] 28))
   have HKW:=Lib.hid (HK3.out.alloc (.cells #[.string p.dof,.string p.name,.int .i64 p.num,.slice p.at_ p.args.length p.cap] 28))
   have HBB:=Lib.hid (show w.heap.size < w1.drew.heap.size from HKT.out.lt)
   have HOWN:=Lib.hid (World.ownsRow.alloc hown3 (.cells #[.string p.dof,.string p.name,.int .i64 p.num,.slice p.at_ p.args.length p.cap] 28))
   have HNEW : Hid (∀ (j : Nat) (u : Value),p.cells[j]? = some u → (w3.alloc (.cells #[.string p.dof,.string p.name,.int .i64 p.num,.slice p.at_ p.args.length p.cap] 28)).cell? ((⟨w3.heap.size,0,none⟩ : Addr).add j) = some u):=Lib.hid (World.news_of_block (heap_alloc_new w3 _))
   have HBASE : Hid (w1.drew.heap.size ≤ (w3.alloc (.cells #[.string p.dof,.string p.name,.int .i64 p.num,.slice p.at_ p.args.length p.cap] 28)).heap.size):=Lib.hid (by have:=hb3.size; simp at this ⊢; omega)
   refine hK _ _ ⟨HZ.out _ HB3.out, ?_⟩
   clear hK K hb3 hown3
   refine wpOrd_one ?_
   refine stepAt_of _ rfl rfl (fun K hK => ?_)
   go_simp
   refine hK _ _ ⟨HZ.out _ HBW.out, ?_⟩
   clear hK K
   refine wpOrd_one ?_
   refine stepAt_of _ rfl rfl (fun K hK => ?_)
   refine wp_append_lies _ (.tmp 42) (.tmp 46) 26 rfl w1.drew.heap.size 28 i0 _ 4 64 Tryz.underlying26 hi hz0 hz1 hz2 rfl (by decide) (.slice A3 (headsTo rs rs.length).length c3) (headsTo rs rs.length).length (((headsTo rs rs.length).map Pt.cells).flatten) (by simp [Act.eval,Act.put]) HOWN.out ⟨w3.heap.size,0,none⟩ 1 1 p.cells (by simp [Act.eval,Act.put]) rfl HNEW.out (by simp [Value.oneCell',Pt.cells]) (by omega) (by rw [headsTo_len (Nat.le_refl _)]; unfold maxLen; omega) (by rw [headsTo_len (Nat.le_refl _)]; omega) HBASE.out _ rfl ?_
   intro g2 c4 w6 hown hgrow hat hlt2
   have hbw6 : Below w.heap.size w w6:=HBW.out.grown hgrow HBW.out.size (fun i hi => by have:=(HOWN.out.lt i hi).1; have:=HBB.out; omega)
   have HB6:=Lib.hid hbw6
   have HO6:=Lib.hid hown
   have HK6:=Lib.hid ((hgrow.block w.heap.size HKW.out.lt (fun e => by have:=(HOWN.out.lt _ e.symm).1; have:=HBB.out; omega)).trans HKW.out)
   refine hK _ _ ⟨HZ.out _ HB6.out, ?_⟩
   clear hK K hown hgrow hat hbw6
   refine wpOrd_one ?_
   refine stepAt_of _ rfl rfl (fun K hK => ?_)
   go_simp
   refine hK _ _ ⟨HZ.out _ HB6.out, ?_⟩
   clear hK K
   refine wpOrd_done ?_
   refine NoPanic.normal ?_
   go_wp2_with fail
   go_meet
   exact ⟨some ⟨g2,0,none⟩,c4,by simp,PatsO.row (by have:=HO6.out; simpa using this),HB6.out,HK6.out⟩
  ·refine stepAt_of _ rfl rfl (fun K hK => ?_)
   go_simp
   have HKP:=Lib.hid (show Blk ((w1.alloc (.cells #[.string p.dof,.string p.name,.int .i64 p.num,.slice p.at_ p.args.length p.cap] 28)).drew) w1.heap.size #[.string p.dof,.string p.name,.int .i64 p.num,.slice p.at_ p.args.length p.cap] 28 from Blk.new w1 _ _)
   have HB4:=Lib.hid (show Below w.heap.size w ((w1.alloc (.cells #[.string p.dof,.string p.name,.int .i64 p.num,.slice p.at_ p.args.length p.cap] 28)).drew) from (HBT.out.alloc HBT.out.size _).drew)
   have HK4:=Lib.hid (show Blk ((w1.alloc (.cells #[.string p.dof,.string p.name,.int .i64 p.num,.slice p.at_ p.args.length p.cap] 28)).drew) w.heap.size _ _ from HKT.out.alloc _)
   refine hK _ _ ⟨HZ.out _ HB4.out, ?_⟩
   clear hK K
   generalize (w1.alloc (.cells #[.string p.dof,.string p.name,.int .i64 p.num,.slice p.at_ p.args.length p.cap] 28)).drew = w4 at HKP HB4 HK4 ⊢
   refine wpOrd_one ?_
   refine stepAt_of _ rfl rfl (fun K hK => ?_)
   go_simp
   refine Calls.mono (HCF.out _ HB4.out) ?_
   rintro e w3 ⟨hb3,v3,rfl,A3,c3,rfl,hown3⟩
   have HBW:=Lib.hid (HB4.out.trans (hb3.mono HB4.out.size))
   have HKW:=Lib.hid (HK4.out.below hb3 HK4.out.lt)
   have HBB:=Lib.hid (show w.heap.size < w4.heap.size from HK4.out.lt)
   have HOWN:=Lib.hid hown3
   have HNEW : Hid (∀ (j : Nat) (u : Value),p.cells[j]? = some u → w3.cell? ((⟨w1.heap.size,0,none⟩ : Addr).add j) = some u):=Lib.hid (World.news_of_block (HKP.out.below hb3 HKP.out.lt))
   have HBASE : Hid (w4.heap.size ≤ w3.heap.size):=Lib.hid hb3.size
   refine hK _ _ ⟨HZ.out _ HBW.out, ?_⟩
   clear hK K hb3 hown3
   refine wpOrd_one ?_
   refine stepAt_of _ rfl rfl (fun K hK => ?_)
   refine wp_append_lies _ (.tmp 42) (.tmp 46) 26 rfl w4.heap.size 28 i0 _ 4 64 Tryz.underlying26 hi hz0 hz1 hz2 rfl (by decide) (.slice A3 (headsTo rs rs.length).length c3) (headsTo rs rs.length).length (((headsTo rs rs.length).map Pt.cells).flatten) (by simp [Act.eval,Act.put]) HOWN.out ⟨w1.heap.size,0,none⟩ 1 1 p.cells (by simp [Act.eval,Act.put]) rfl HNEW.out (by simp [Value.oneCell',Pt.cells]) (by omega) (by rw [headsTo_len (Nat.le_refl _)]; unfold maxLen; omega) (by rw [headsTo_len (Nat.le_refl _)]; omega) HBASE.out _ rfl ?_
   intro g2 c4 w6 hown hgrow hat hlt2
   have hbw6 : Below w.heap.size w w6:=HBW.out.grown hgrow HBW.out.size (fun i hi => by have:=(HOWN.out.lt i hi).1; have:=HBB.out; omega)
   have HB6:=Lib.hid hbw6
   have HO6:=Lib.hid hown
   have HK6:=Lib.hid ((hgrow.block w.heap.size HKW.out.lt (fun e => by have:=(HOWN.out.lt _ e.symm).1; have:=HBB.out; omega)).trans HKW.out)
   refine hK _ _ ⟨HZ.out _ HB6.out, ?_⟩
   clear hK K hown hgrow hat hbw6
   refine wpOrd_one ?_
   refine stepAt_of _ rfl rfl (fun K hK => ?_)
   go_simp
   refine hK _ _ ⟨HZ.out _ HB6.out, ?_⟩
   clear hK K
   refine wpOrd_done ?_
   refine NoPanic.normal ?_
   go_wp2_with fail
   go_meet
   exact ⟨some ⟨g2,0,none⟩,c4,by simp,PatsO.row (by have:=HO6.out; simpa using this),HB6.out,HK6.out⟩
 case rest =>
  obtain ⟨Ac,cc,rfl,HCR,HCB,HCK⟩:=hcut
  have HNW:=Lib.hid (notWild_any (headsTo rs rs.length ++ [p]) Ac cc wc (by simp [headsTo_len (Nat.le_refl _)]; omega) HCR.out)
  rw [HWILD.out] at HNW
  clear y0 y1 y2
  generalize hnl : (headsTo rs rs.length ++ [p]).length = nl at HNW ⊢
  clear hnl
  obtain ⟨m,ok,hno⟩ : ∃ m ok,nodesN (numL L) t = (m,ok):=⟨_,_,rfl⟩
  have HNO:=Lib.hid hno
  have htok:=H.out.tok t (by simp)
  have htin : t.In w.heap.size w:=H.out.tin.2.1 t (by simp)
  have HCN:=Lib.hid (fun (W : World) (hW : Below w.heap.size w W) => nodes_any K l L t W htok.1 (htin.next hW) (H.out.env.sk.next hW))
  rw [hno] at HCN
  have HOKV:=Lib.hid (show ok = true ↔ ∃ v,Val l t v by
   have h1:=nodesN_has (numL L) t htok.1
   rw [hno] at h1
   simp only at h1
   rw [h1]
   exact hasV_iff HR.out.right HR.out.inh htok.1)
  have HVAL:=Lib.hid (fun (W : World) (hW : Sm K w W) (hok : ok = true) => value_any K l L HR.out.right HR.out.met t W htok.1 (hW.wide_ty htin) (H.out.env.sm hW) (by rw [hno]; exact hok))
  have HALLW:=Lib.hid (show wildD p.dof = true ∧ ∀ r ∈ patsL rs,∀ q r',r = q :: r' → wildD q.dof = true from heads_all HWILD.out)
  have HU:=Lib.hid (useful_flat l t ts (patsL rs) p ps (fun r hr => by
   obtain ⟨x,hx,rfl⟩:=List.mem_map.1 hr
   exact (H.out.rok x hx).ok) HALLW.out.1 HALLW.out.2)
  have hkb:=H.out.env.sk.lt
  clear hno htok htin
  unfold Ty.val Sk.val at *
  go_wp2_with fail
  refine Calls.mono HNW.out ?_
  rintro e w2 ⟨rfl,hb2⟩
  have HB2:=Lib.hid (HCB.out.trans (hb2.mono HCB.out.size))
  have HK2:=Lib.hid (HCK.out.below hb2 HCK.out.lt)
  clear hb2
  obtain ⟨y0,y1,y2⟩:=HK2.out.three
  have yl:=HK2.out.lt
  go_wp2_with fail
  refine Calls.mono (HCN.out _ HB2.out) ?_
  rintro e w3 ⟨rfl,hb3⟩
  have HB3:=Lib.hid (HB2.out.trans (hb3.mono HB2.out.size))
  have HK3:=Lib.hid (HK2.out.below hb3 HK2.out.lt)
  clear hb3 y0 y1 y2 yl
  cases ok
  case false =>
   go_wp2_with fail
   exact bodyPost_ret (v:=.tuple #[.slice none 0 0,.bool false]) (by simp [results,Tryz.results44,go_sem]) rfl ⟨H.out.env.sk.same HB3.out,.inl ⟨rfl,fun h => by have:=HOKV.out.2 (HU.out.1 h).1; cases this⟩⟩
  case true =>
  go_wp2_with fail
  go_loopw [61,14] (fun iv ov wr => ∃ (k : Nat) (A' : Option Addr) (c' : Nat),iv = .int .i64 k ∧ k ≤ rs.length ∧ ov = .slice A' k c' ∧ Hid (Below w.heap.size w wr) ∧ Hid (Blk wr w.heap.size #[.string t.dof,.string t.name,.slice t.at_ t.args.length t.cap] 25) ∧ Hid (wr.ownsRow (w.heap.size + 1) 26 1 (.slice A' k c') k ((rs.map fun r => (tailRw r).val).take k))) (fun iv _ _ => rs.length - (intOf iv).toNat)
  case atStart => exact ⟨0,none,0,rfl,Nat.zero_le _,rfl,HB3.out,HK3.out,Lib.hid (World.ownsRow_nil _ _ _ _)⟩
  case round =>
   obtain ⟨k,A',c',rfl,hk,rfl,HB,HK,HO⟩:=hrel
   have hs0:=HB.out.size
   have hs1:=HK.out.lt
   by_cases hlt : k < rs.length
   ·obtain ⟨r,b0,off,hr,hmem,rfl,hb,x0⟩:=HRS.out.arg_at HB.out hlt
    have HTS:=Lib.hid (take_snoc (l:=rs.map fun r => (tailRw r).val) (q:=(tailRw r).val) (by rw [List.getElem?_map,hr]; rfl))
    obtain ⟨ra,rc,rp⟩:=r
    cases rp with
    | nil => exact absurd (HNE.out _ hmem) (by simp)
    | cons q qs =>
    have hri:=HRS.out.each _ hmem
    obtain ⟨b2,off2,rfl,hb2⟩:=hri.some
    have hrc : qs.length + 1 ≤ rc ∧ rc ≤ 9223372036854775807:=by have:=hri.2.2; simpa using this
    unfold Rw.val at x0
    simp only [List.length_cons] at x0
    clear hr hri hmem
    by_cases hc1 : rc = 1
    ·subst hc1
     have hqs : qs = []:=List.eq_nil_of_length_eq_zero (by omega)
     subst hqs
     simp only [List.length_nil,Nat.zero_add] at x0
     have HTV:=Lib.hid (show (tailRw ⟨some ⟨b2,off2,none⟩,1,[q]⟩).val = .slice (some ⟨b2,off2,none⟩) 0 0 from rfl)
     go_wp2_with (at_builtin; go_must (refine wpList_append_own_at _ rfl (.tmp 65) (.tmp 68) 80 rfl (w.heap.size + 1) 26 i1 _ 1 24 Tryz.underlying80 hj hw0 hw1 hw2 rfl (by decide) (.slice A' k c') k ((rs.map fun r => (tailRw r).val).take k) rfl ?ha0 ⟨wr.heap.size,0,none⟩ 1 1 [.slice (some ⟨b2,off2,none⟩) 0 0] rfl rfl ?ha1 ?ha2 ?ha3 ?ha4 ?ha5 ?_))
     case ha0 => exact World.ownsRow.alloc HO.out _
     case ha1 => exact World.news_of_block (heap_alloc_new wr _)
     case ha2 => simp [Value.oneCell']
     case ha3 => unfold maxLen; omega
     case ha4 => omega
     case ha5 => first | omega | (simp; omega)
     intro v' w5 hown hgrow _ _
     obtain ⟨A5,c5,rfl,-⟩:=row_slice hown
     have hb5 : Below w.heap.size w w5:=(HB.out.alloc hs0 _).grown hgrow (by simp; omega) (fun i hi => by have:=(HO.out.lt i hi).1; omega)
     have hk5 : Blk w5 w.heap.size _ _:=(hgrow.block _ (by simp; omega) (fun e => by have:=(HO.out.lt _ e.symm).1; omega)).trans (HK.out.alloc _)
     have HB5:=Lib.hid hb5
     have HK5:=Lib.hid hk5
     have HO5:=Lib.hid hown
     clear hown hgrow hb5 hk5 x0
     go_wp2_with fail
     refine ⟨⟨k + 1,A5,c5,by go_num,by omega,rfl,HB5.out,HK5.out,Lib.hid ?_⟩,by simp [intOf]; omega⟩
     rw [HTS.out,HTV.out]
     exact HO5.out
    ·have HTV:=Lib.hid (show (tailRw ⟨some ⟨b2,off2,none⟩,rc,q :: qs⟩).val = .slice (some ⟨b2,off2 + 4,none⟩) qs.length (rc - 1) by rw [tailRw_mk]; unfold tailAd Rw.val; simp [hc1])
     go_wp2_with (at_builtin; go_must (refine wpList_append_own_at _ rfl (.tmp 65) (.tmp 68) 80 rfl (w.heap.size + 1) 26 i1 _ 1 24 Tryz.underlying80 hj hw0 hw1 hw2 rfl (by decide) (.slice A' k c') k ((rs.map fun r => (tailRw r).val).take k) rfl ?hb0 ⟨wr.heap.size,0,none⟩ 1 1 [.slice (some ⟨b2,off2 + 4,none⟩) qs.length (rc - 1)] rfl rfl ?hb1 ?hb2 ?hb3 ?hb4 ?hb5 ?_))
     case hb0 => exact World.ownsRow.alloc HO.out _
     case hb1 => exact World.news_of_block (heap_alloc_new wr _)
     case hb2 => simp [Value.oneCell']
     case hb3 => unfold maxLen; omega
     case hb4 => omega
     case hb5 => first | omega | (simp; omega)
     intro v' w5 hown hgrow _ _
     obtain ⟨A5,c5,rfl,-⟩:=row_slice hown
     have hb5 : Below w.heap.size w w5:=(HB.out.alloc hs0 _).grown hgrow (by simp; omega) (fun i hi => by have:=(HO.out.lt i hi).1; omega)
     have hk5 : Blk w5 w.heap.size _ _:=(hgrow.block _ (by simp; omega) (fun e => by have:=(HO.out.lt _ e.symm).1; omega)).trans (HK.out.alloc _)
     have HB5:=Lib.hid hb5
     have HK5:=Lib.hid hk5
     have HO5:=Lib.hid hown
     clear hown hgrow hb5 hk5 x0
     go_wp2_with fail
     refine ⟨⟨k + 1,A5,c5,by go_num,by omega,rfl,HB5.out,HK5.out,Lib.hid ?_⟩,by simp [intOf]; omega⟩
     rw [HTS.out,HTV.out]
     exact HO5.out
   ·have hk2 : k = rs.length:=by omega
    subst hk2
    obtain ⟨y0,y1,y2⟩:=HK.out.three
    have HCALL:=Lib.hid (show Calls Tryz.prog 44 #[.pointer (some ⟨K.b,0,none⟩),.slice (tailAd 3 bt ot ct) ts.length (ct - 1),.slice A' rs.length c',.slice (tailAd 4 b1 off1 cr) ps.length (cr - 1)] wr.drew (SeekPost K l ts ((patsL rs).map List.tail) ps wr.drew) by
     have h9:=flat_in2 H.out HB.out HO.out
     have h8:=HIH.out ⟨tailAd 3 bt ot ct,ct - 1,ts⟩ A' (rs.map tailRw) c' ⟨tailAd 4 b1 off1 cr,cr - 1,ps⟩ wr.drew h9 (by
      rw [tail_pats H.out.rin.each HNE.out]
      have h7:=HN.out
      have h6:=tails_weight (patsL rs)
      have h5 : rowW (p :: ps) = p.weight + rowW ps:=by unfold rowW; simp
      unfold sizeL at h7 ⊢
      simp only [List.length_cons] at h7 ⊢
      omega)
     rw [tail_pats H.out.rin.each HNE.out,List.length_map] at h8
     exact h8)
    go_wp2_with fail
    refine region_mix (fun _ => True) [(0,true),(1,true),(2,true),(3,true),(4,true),(5,true),(6,false),(7,true),(8,true),(9,true),(10,false),(11,false)] 11 (by kernel_rfl) (by kernel_rfl) trivial ?_
    simp only [pickM,List.filterMap_cons,List.getElem?_cons_zero,List.getElem?_cons_succ,List.filterMap_nil,Option.map_some]
    iterate 2
     refine wpMix_read ?_ (by rfl) (fun W hW => ?_) ?_
     rotate_left
     ·go_simp
      try with_reducible rfl
     simp only [Act.put,List.setIfInBounds_toArray,List.set_cons_zero,List.set_cons_succ]
    refine wpMix_read (.slice (tailAd 3 bt ot ct) ts.length (ct - 1)) (by rfl) (fun W hW => ?_) ?_
    ·unfold tailAd
     by_cases hc1 : ct = 1
     ·subst hc1
      have hts : ts = []:=List.eq_nil_of_length_eq_zero (by omega)
      rw [hts]
      go_simp
     ·rw [if_neg hc1]
      go_simp
      intro h9
      omega
    simp only [Act.put,List.setIfInBounds_toArray,List.set_cons_zero,List.set_cons_succ]
    iterate 2
     refine wpMix_read ?_ (by rfl) (fun W hW => ?_) ?_
     rotate_left
     ·go_simp
      try with_reducible rfl
     simp only [Act.put,List.setIfInBounds_toArray,List.set_cons_zero,List.set_cons_succ]
    refine wpMix_read (.slice (tailAd 4 b1 off1 cr) ps.length (cr - 1)) (by rfl) (fun W hW => ?_) ?_
    ·unfold tailAd
     by_cases hc1 : cr = 1
     ·subst hc1
      have hts : ps = []:=List.eq_nil_of_length_eq_zero (by omega)
      rw [hts]
      go_simp
     ·rw [if_neg hc1]
      go_simp
      intro h9
      omega
    simp only [Act.put,List.setIfInBounds_toArray,List.set_cons_zero,List.set_cons_succ]
    refine wpMix_step rfl (fun K9 hK => ?_)
    go_simp
    refine Calls.mono HCALL.out ?_
    rintro e w7 ⟨hs7,hres⟩
    have HS7:=Lib.hid ((H.out.env.sk.same HB.out.drew).trans hs7)
    have HKT7:=Lib.hid (hs7.blk (show Blk wr.drew w.heap.size _ _ from HK.out) (by decide))
    clear hs7
    rcases hres with ⟨rfl,hnu⟩ | ⟨hu,A7,c7,out,rfl,hin7,hno7,-,hlen7,hval7⟩
    ·refine hK _ _ (fun _ => trivial) ?_
     clear hK K9
     have HNU:=Lib.hid hnu
     clear hnu
     iterate 3
      refine wpMix_read ?_ (by rfl) (fun W hW => ?_) ?_
      rotate_left
      ·go_simp
       try with_reducible rfl
      simp only [Act.put,List.setIfInBounds_toArray,List.set_cons_zero,List.set_cons_succ]
     iterate 2
      refine wpMix_step rfl (fun K9 hK => ?_)
      go_simp
      refine hK _ _ (fun _ => trivial) ?_
      clear hK K9
     refine wpMix_nil ?_
     refine NoPanic.normal ?_
     go_wp2_with fail
     exact bodyPost_ret (v:=.tuple #[.slice none 0 0,.bool false]) (by simp [results,Tryz.results44,go_sem]) rfl ⟨HS7.out,.inl ⟨rfl,fun h => HNU.out (HU.out.1 h).2⟩⟩
    ·refine hK _ _ (fun _ => trivial) ?_
     clear hK K9
     have HIN7:=Lib.hid hin7
     have HNO7:=Lib.hid hno7
     have HVAL7:=Lib.hid hval7
     have HLEN7:=Lib.hid hlen7
     have hl7 : out.length ≤ 100000:=by rw [hlen7]; exact hlt0
     have HUSE:=Lib.hid (HU.out.2 ⟨HOKV.out.1 (by trivial),hu⟩)
     have hc7 : out.length ≤ c7:=hin7.2.2.1
     clear hin7 hno7 hval7 hu hlen7
     iterate 3
      refine wpMix_read ?_ (by rfl) (fun W hW => ?_) ?_
      rotate_left
      ·go_simp
       try with_reducible rfl
      simp only [Act.put,List.setIfInBounds_toArray,List.set_cons_zero,List.set_cons_succ]
     iterate 2
      refine wpMix_step rfl (fun K9 hK => ?_)
      go_simp
      refine hK _ _ (fun _ => trivial) ?_
      clear hK K9
     refine wpMix_nil ?_
     refine NoPanic.normal ?_
     clear y0 y1 y2 hs1
     have hs1:=HKT7.out.lt
     obtain ⟨y0,y1,y2⟩:=HKT7.out.three
     go_wp2_with fail
     refine Calls.mono (HVAL.out w7 HS7.out (by trivial)) ?_
     rintro e w8 ⟨hs8,v,rfl,hv8,-,hvv⟩
     have HS8:=Lib.hid (HS7.out.trans hs8)
     have HIN8:=Lib.hid (hs8.rw HIN7.out)
     have HBK:=Lib.hid (fun h => HVAL7.out (hs8.back h))
     have HV8:=Lib.hid hv8
     have HVV:=Lib.hid hvv
     have HROW:=Lib.hid (own_one w8 v)
     clear hs8 hv8 hvv y0 y1 y2 hs1
     unfold Pt.val
     go_wp2_with (at_builtin; go_must (refine append_rowat rfl (.tmp 86) (.tmp 87) 26 rfl w8.heap.size 28 i0 _ 4 64 Tryz.underlying26 hi hz0 hz1 hz2 rfl (by decide) (.slice (some ⟨w8.heap.size,0,none⟩) 1 1) 1 [.string v.dof,.string v.name,.int .i64 v.num,.slice v.at_ v.args.length v.cap] rfl ?hd0 w8.heap.size A7 (out.map Pt.cells) c7 ?hd1 ?hd2 ?hd3 ?hd4 ?hd5 ?hd6 ?hd7 ?hd8 ?hd9 ?_))
     case hd0 => exact HROW.out
     case hd1 => simp [Act.eval]
     case hd2 => exact HNO7.out
     case hd3 => exact HIN8.out.1.keep ((Below.refl _ _).alloc (Nat.le_refl _) _)
     case hd4 => simpa using hc7
     case hd5 =>
      intro y hy
      obtain ⟨q,-,rfl⟩:=List.mem_map.1 hy
      rfl
     case hd6 =>
      intro y hy u hu
      obtain ⟨q,-,rfl⟩:=List.mem_map.1 hy
      simp only [Pt.cells,List.mem_cons,List.not_mem_nil,or_false] at hu
      rcases hu with rfl | rfl | rfl | rfl <;> rfl
     case hd7 => have : (out.map Pt.cells).length = out.length:=List.length_map _; unfold maxLen; omega
     case hd8 => have : (out.map Pt.cells).length = out.length:=List.length_map _; omega
     case hd9 => simp
     intro v' w9 hown hgrow _
     obtain ⟨A9,c9,rfl,-⟩:=row_slice hown
     have hb9 : Below w8.heap.size w8 w9:=((Below.refl _ _).alloc (Nat.le_refl _) _).grown hgrow (by simp) (fun j hj => by simp [Value.ownBlock] at hj; omega)
     have hopn : Open_ K w9 → Open_ K w8:=fun h => ((H.out.env.sk.sm HS8.out).same hb9).back h
     have hown' : w9.ownsRow w8.heap.size 28 4 (.slice A9 (v :: out).length c9) (v :: out).length (((v :: out).map Pt.cells).flatten):=by
      have e : (v :: out).length = 1 + out.length:=by simp; omega
      rw [e]
      exact hown
     have HOP:=Lib.hid hopn
     have HS9:=Lib.hid (HS8.out.then hb9)
     have HIN9:=Lib.hid (PatsO.in_ hown' (fun q hq => by
      rcases List.mem_cons.1 hq with rfl | hq
      ·exact HV8.out.next hb9
      ·exact Pt.In.next (HIN8.out.2.1 q hq) hb9))
     have HNO9:=Lib.hid (own_cap hown').2.1
     have HLL:=Lib.hid (show (v :: out).length = (t :: ts).length by simp [HLEN7.out])
     have e9 : 1 + out.length = (v :: out).length:=by simp; omega
     rw [e9]
     clear hown hgrow hown' hopn hb9
     generalize hvo : (v :: out) = vo at HIN9 HNO9 HLL ⊢
     have HVO:=Lib.hid hvo
     clear hvo e9
     go_wp2_with fail
     exact bodyPost_ret (v:=.tuple #[.slice A9 vo.length c9,.bool true]) (by simp [results,Tryz.results44,go_sem]) rfl ⟨HS9.out,.inr ⟨HUSE.out,A9,c9,vo,rfl,HIN9.out,HNO9.out,fun h => (by rw [← HVO.out] at h; cases h),HLL.out,fun h => by
      have h8:=HOP.out h
      have h7:=HBK.out h8
      rw [← HVO.out]
      refine ⟨.cons (HVV.out h8) h7.1, ?_,fun r hr => ?_⟩
      ·rw [matchAll_cons,wild_of p HALLW.out.1,h7.2.1]
       rfl
      ·obtain ⟨x,hx,rfl⟩:=List.mem_map.1 hr
       obtain ⟨q,qs,he⟩ : ∃ q qs,x.pats = q :: qs:=by
        have:=HNE.out x hx
        cases hxp : x.pats with
        | nil => rw [hxp] at this; simp at this
        | cons q qs => exact ⟨q,qs,rfl⟩
       rw [he,matchAll_cons,h7.2.2 qs (List.mem_map.2 ⟨x.pats,hr,by rw [he]; rfl⟩),Bool.and_false]⟩⟩
end Go.Proofs.YtjeggkfgdhepaaaGreatDoor
